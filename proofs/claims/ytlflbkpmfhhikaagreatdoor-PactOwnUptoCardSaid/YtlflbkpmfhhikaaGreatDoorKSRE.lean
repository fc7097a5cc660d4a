/- slices.SortedFunc at api.Txn by locktab.order, against whatever iterator; maps.Keys. -/
import Derived.Test.YtlflbkpmfhhikaaGreatDoorKSRC
import Derived.Shelf.SlSortCmp.NoneTotal
import Derived.Shelf.SlicesG.Cmp
import Derived.Shelf.SlIter.Nil
import Derived.Shelf.SortM.Plain
import Derived.Shelf.SortM.SortNone
import Derived.Shelf.SlGeneric
import Derived.Ground.SlsfProg
import Derived.Ground.SlgcProg
import Derived.Ground.GgzProg
import Derived.Ground.SlgmProg
import Derived.Test.YtlflbkpmfhhikaaGreatDoorProg
import Derived.Deep.RegionWith
import Derived.Deep.QuietTactic
import Derived.StillTailTactics
import Derived.Sort.OwnSorted
import Derived.RangeFuncBound
namespace Go.Proofs
open Go.Shelf
def Tryz.sortTx_ren:Go.Shelf.Ren:=⟨fun | 6=>118 | 15=>145 | 14=>147 | 28=>169 | 29=>170 | 20=>171 | 21=>172 | 22=>173 | 23=>174 | 24=>175 | 25=>176 | 26=>177 | 27=>178 | 46=>194 | 47=>189 | 48=>190 | 49=>195 | 50=>196 | 57=>204 | n=>n,fun | 22=>56 | 24=>47 | 25=>202 | 3=>3 | 39=>234 | 0=>0 | 53=>297 | 55=>299 | 4=>4 | 46=>290 | 45=>289 | 50=>220 | 5=>5 | 9=>9 | 66=>315 | 70=>319 | 76=>325 | 77=>306 | n=>n,fun | n=>n⟩
theorem Tryz.sortTx:Go.Proofs.SlLaysF0.n6 Tryz.prog Tryz.sortTx_ren:={
 mixed:=by kernel_rfl
 f6:=⟨Tryz.f118.name,by decide,Tryz.func118.trans (congrArg some (by kernel_rfl))⟩
 f14:=⟨Tryz.f147.name,by decide,Tryz.func147.trans (congrArg some (by kernel_rfl))⟩
 f15:=Tryz.func145.trans (congrArg some (by kernel_rfl))
 f20:=⟨Tryz.f171.name,by decide,Tryz.func171.trans (congrArg some (by kernel_rfl))⟩
 f21:=⟨Tryz.f172.name,by decide,Tryz.func172.trans (congrArg some (by kernel_rfl))⟩
 f22:=⟨Tryz.f173.name,by decide,Tryz.func173.trans (congrArg some (by kernel_rfl))⟩
 f23:=⟨Tryz.f174.name,by decide,Tryz.func174.trans (congrArg some (by kernel_rfl))⟩
 f24:=⟨Tryz.f175.name,by decide,Tryz.func175.trans (congrArg some (by kernel_rfl))⟩
 f25:=⟨Tryz.f176.name,by decide,Tryz.func176.trans (congrArg some (by kernel_rfl))⟩
 f26:=⟨Tryz.f177.name,by decide,Tryz.func177.trans (congrArg some (by kernel_rfl))⟩
 f27:=⟨Tryz.f178.name,by decide,Tryz.func178.trans (congrArg some (by kernel_rfl))⟩
 f28:=Tryz.func169.trans (congrArg some (by kernel_rfl))
 f29:=Tryz.func170.trans (congrArg some (by kernel_rfl))
 f46:=⟨Tryz.f194.name,by decide,Tryz.func194.trans (congrArg some (by kernel_rfl))⟩
 f47:=Tryz.func189.trans (congrArg some (by kernel_rfl))
 f48:=Tryz.func190.trans (congrArg some (by kernel_rfl))
 f49:=⟨Tryz.f195.name,by decide,Tryz.func195.trans (congrArg some (by kernel_rfl))⟩
 f50:=⟨Tryz.f196.name,by decide,Tryz.func196.trans (congrArg some (by kernel_rfl))⟩
 f57:=⟨Tryz.f204.name,by decide,Tryz.func204.trans (congrArg some (by kernel_rfl))⟩
 t0:=Tryz.underlying0
 a0:=Tryz.isAgg0
 z0:=Tryz.sizeOf0
 v0:=Tryz.zeroValue0
 t3:=Tryz.underlying3
 a3:=Tryz.isAgg3
 z3:=Tryz.sizeOf3
 v3:=Tryz.zeroValue3
 t4:=Tryz.underlying4
 a4:=Tryz.isAgg4
 z4:=Tryz.sizeOf4
 v4:=Tryz.zeroValue4
 t5:=Tryz.underlying5
 a5:=Tryz.isAgg5
 z5:=Tryz.sizeOf5
 v5:=Tryz.zeroValue5
 t9:=Tryz.underlying9
 a9:=Tryz.isAgg9
 z9:=Tryz.sizeOf9
 v9:=Tryz.zeroValue9
 t22:=Tryz.underlying56
 a22:=Tryz.isAgg56
 z22:=Tryz.sizeOf56
 v22:=Tryz.zeroValue56
 t25:=Tryz.underlying202
 a25:=Tryz.isAgg202
 z25:=Tryz.sizeOf202
 v25:=Tryz.zeroValue202
 t39:=Tryz.underlying234
 a39:=Tryz.isAgg234
 z39:=Tryz.sizeOf234
 v39:=Tryz.zeroValue234
 t45:=Tryz.underlying289
 a45:=Tryz.isAgg289
 z45:=Tryz.sizeOf289
 v45:=Tryz.zeroValue289
 t46:=Tryz.underlying290
 a46:=Tryz.isAgg290
 z46:=Tryz.sizeOf290
 v46:=Tryz.zeroValue290
 t50:=Tryz.underlying220
 a50:=Tryz.isAgg220
 z50:=Tryz.sizeOf220
 v50:=Tryz.zeroValue220
 t53:=Tryz.underlying297
 a53:=Tryz.isAgg297
 z53:=Tryz.sizeOf297
 v53:=Tryz.zeroValue297
 t55:=Tryz.underlying299
 a55:=Tryz.isAgg299
 z55:=Tryz.sizeOf299
 v55:=Tryz.zeroValue299
 t66:=Tryz.underlying315
 a66:=Tryz.isAgg315
 z66:=Tryz.sizeOf315
 v66:=Tryz.zeroValue315
 t70:=Tryz.underlying319
 a70:=Tryz.isAgg319
 z70:=Tryz.sizeOf319
 v70:=Tryz.zeroValue319
 t76:=Tryz.underlying325
 a76:=Tryz.isAgg325
 z76:=Tryz.sizeOf325
 v76:=Tryz.zeroValue325
 t77:=Tryz.underlying306
 a77:=Tryz.isAgg306
 z77:=Tryz.sizeOf306
 v77:=Tryz.zeroValue306}
def Tryz.cmpI_ren:Go.Shelf.Ren:=⟨fun | 5=>121 | 7=>148 | n=>n,fun | 22=>3 | 3=>3 | 4=>4 | n=>n,fun | n=>n⟩
theorem Tryz.cmpI:Go.Proofs.SlLaysC2.n5 Tryz.prog Tryz.cmpI_ren:={
 mixed:=by kernel_rfl
 f5:=⟨Tryz.f121.name,by decide,Tryz.func121.trans (congrArg some (by kernel_rfl))⟩
 f7:=⟨Tryz.f148.name,by decide,Tryz.func148.trans (congrArg some (by kernel_rfl))⟩
 t3:=Tryz.underlying3
 a3:=Tryz.isAgg3
 z3:=Tryz.sizeOf3
 v3:=Tryz.zeroValue3
 t4:=Tryz.underlying4
 a4:=Tryz.isAgg4
 z4:=Tryz.sizeOf4
 v4:=Tryz.zeroValue4
 t22:=Tryz.underlying3
 a22:=Tryz.isAgg3
 z22:=Tryz.sizeOf3
 v22:=Tryz.zeroValue3}
def Tryz.keysS_ren:Go.Shelf.Ren:=⟨fun | 7=>80 | 10=>116 | n=>n,fun | 23=>193 | 26=>9 | 3=>3 | 28=>191 | 0=>0 | 27=>190 | 33=>236 | 4=>4 | n=>n,fun | n=>n⟩
theorem Tryz.keysS:Go.Proofs.SlLaysZ.n7 Tryz.prog Tryz.keysS_ren:={
 mixed:=by kernel_rfl
 f7:=⟨Tryz.f80.name,by decide,Tryz.func80.trans (congrArg some (by kernel_rfl))⟩
 f10:=⟨Tryz.f116.name,by decide,Tryz.func116.trans (congrArg some (by kernel_rfl))⟩
 t0:=Tryz.underlying0
 a0:=Tryz.isAgg0
 z0:=Tryz.sizeOf0
 v0:=Tryz.zeroValue0
 t4:=Tryz.underlying4
 a4:=Tryz.isAgg4
 z4:=Tryz.sizeOf4
 v4:=Tryz.zeroValue4
 t23:=Tryz.underlying193
 a23:=Tryz.isAgg193
 z23:=Tryz.sizeOf193
 v23:=Tryz.zeroValue193
 t26:=Tryz.underlying9
 a26:=Tryz.isAgg9
 z26:=Tryz.sizeOf9
 v26:=Tryz.zeroValue9
 t27:=Tryz.underlying190
 a27:=Tryz.isAgg190
 z27:=Tryz.sizeOf190
 v27:=Tryz.zeroValue190
 t28:=Tryz.underlying191
 a28:=Tryz.isAgg191
 z28:=Tryz.sizeOf191
 v28:=Tryz.zeroValue191
 t33:=Tryz.underlying236
 a33:=Tryz.isAgg236
 z33:=Tryz.sizeOf236
 v33:=Tryz.zeroValue236}
def Tryz.sortedS_ren:Go.Shelf.Ren:=⟨fun | 6=>79 | 8=>114 | 9=>115 | 11=>143 | 13=>145 | 12=>144 | 23=>169 | 24=>170 | 14=>160 | 15=>161 | 16=>162 | 17=>163 | 18=>164 | 19=>165 | 20=>166 | 21=>167 | 22=>168 | 25=>188 | 26=>189 | 27=>190 | 28=>191 | 29=>192 | 30=>193 | 31=>203 | n=>n,fun | 26=>9 | 28=>191 | 24=>48 | 0=>0 | 3=>3 | 37=>234 | 48=>297 | 50=>299 | 4=>4 | 40=>290 | 39=>289 | 45=>220 | 5=>5 | 9=>9 | 51=>315 | 55=>319 | 57=>325 | 58=>306 | 33=>236 | n=>n,fun | n=>n⟩
theorem Tryz.sortedS:Go.Proofs.SlLaysZ.n6 Tryz.prog Tryz.sortedS_ren:={
 mixed:=by kernel_rfl
 f6:=⟨Tryz.f79.name,by decide,Tryz.func79.trans (congrArg some (by kernel_rfl))⟩
 f8:=⟨Tryz.f114.name,by decide,Tryz.func114.trans (congrArg some (by kernel_rfl))⟩
 f11:=⟨Tryz.f143.name,by decide,Tryz.func143.trans (congrArg some (by kernel_rfl))⟩
 t0:=Tryz.underlying0
 a0:=Tryz.isAgg0
 z0:=Tryz.sizeOf0
 v0:=Tryz.zeroValue0
 t24:=Tryz.underlying48
 a24:=Tryz.isAgg48
 z24:=Tryz.sizeOf48
 v24:=Tryz.zeroValue48
 t26:=Tryz.underlying9
 a26:=Tryz.isAgg9
 z26:=Tryz.sizeOf9
 v26:=Tryz.zeroValue9
 t28:=Tryz.underlying191
 a28:=Tryz.isAgg191
 z28:=Tryz.sizeOf191
 v28:=Tryz.zeroValue191
 i26:=by kernel_rfl}
def Tryz.sortS_ren:Go.Shelf.Ren:=⟨fun | 6=>115 | 8=>145 | 9=>144 | 19=>169 | 20=>170 | 21=>160 | 22=>161 | 23=>162 | 24=>163 | 25=>164 | 26=>165 | 27=>166 | 28=>167 | 29=>168 | 36=>188 | 31=>189 | 32=>190 | 37=>191 | 38=>192 | 39=>193 | 41=>203 | n=>n,fun | 27=>48 | 29=>9 | 3=>3 | 32=>234 | 26=>48 | 0=>0 | 44=>297 | 46=>299 | 4=>4 | 36=>290 | 35=>289 | 41=>220 | 5=>5 | 9=>9 | 53=>315 | 57=>319 | 63=>325 | 64=>306 | n=>n,fun | n=>n⟩
theorem Tryz.sortS:Go.Proofs.SlLaysM.n6 Tryz.prog Tryz.sortS_ren:={
 mixed:=by kernel_rfl
 f6:=⟨Tryz.f115.name,by decide,Tryz.func115.trans (congrArg some (by kernel_rfl))⟩
 f8:=Tryz.func145.trans (congrArg some (by kernel_rfl))
 f9:=⟨Tryz.f144.name,by decide,Tryz.func144.trans (congrArg some (by kernel_rfl))⟩
 f19:=Tryz.func169.trans (congrArg some (by kernel_rfl))
 f20:=Tryz.func170.trans (congrArg some (by kernel_rfl))
 f21:=⟨Tryz.f160.name,by decide,Tryz.func160.trans (congrArg some (by kernel_rfl))⟩
 f22:=⟨Tryz.f161.name,by decide,Tryz.func161.trans (congrArg some (by kernel_rfl))⟩
 f23:=⟨Tryz.f162.name,by decide,Tryz.func162.trans (congrArg some (by kernel_rfl))⟩
 f24:=⟨Tryz.f163.name,by decide,Tryz.func163.trans (congrArg some (by kernel_rfl))⟩
 f25:=⟨Tryz.f164.name,by decide,Tryz.func164.trans (congrArg some (by kernel_rfl))⟩
 f26:=⟨Tryz.f165.name,by decide,Tryz.func165.trans (congrArg some (by kernel_rfl))⟩
 f27:=⟨Tryz.f166.name,by decide,Tryz.func166.trans (congrArg some (by kernel_rfl))⟩
 f28:=⟨Tryz.f167.name,by decide,Tryz.func167.trans (congrArg some (by kernel_rfl))⟩
 f29:=⟨Tryz.f168.name,by decide,Tryz.func168.trans (congrArg some (by kernel_rfl))⟩
 f31:=Tryz.func189.trans (congrArg some (by kernel_rfl))
 f32:=Tryz.func190.trans (congrArg some (by kernel_rfl))
 f36:=⟨Tryz.f188.name,by decide,Tryz.func188.trans (congrArg some (by kernel_rfl))⟩
 f37:=⟨Tryz.f191.name,by decide,Tryz.func191.trans (congrArg some (by kernel_rfl))⟩
 f38:=⟨Tryz.f192.name,by decide,Tryz.func192.trans (congrArg some (by kernel_rfl))⟩
 f39:=⟨Tryz.f193.name,by decide,Tryz.func193.trans (congrArg some (by kernel_rfl))⟩
 f41:=⟨Tryz.f203.name,by decide,Tryz.func203.trans (congrArg some (by kernel_rfl))⟩
 t0:=Tryz.underlying0
 a0:=Tryz.isAgg0
 z0:=Tryz.sizeOf0
 v0:=Tryz.zeroValue0
 t3:=Tryz.underlying3
 a3:=Tryz.isAgg3
 z3:=Tryz.sizeOf3
 v3:=Tryz.zeroValue3
 t4:=Tryz.underlying4
 a4:=Tryz.isAgg4
 z4:=Tryz.sizeOf4
 v4:=Tryz.zeroValue4
 t5:=Tryz.underlying5
 a5:=Tryz.isAgg5
 z5:=Tryz.sizeOf5
 v5:=Tryz.zeroValue5
 t9:=Tryz.underlying9
 a9:=Tryz.isAgg9
 z9:=Tryz.sizeOf9
 v9:=Tryz.zeroValue9
 t26:=Tryz.underlying48
 a26:=Tryz.isAgg48
 z26:=Tryz.sizeOf48
 v26:=Tryz.zeroValue48
 t27:=Tryz.underlying48
 a27:=Tryz.isAgg48
 z27:=Tryz.sizeOf48
 v27:=Tryz.zeroValue48
 t29:=Tryz.underlying9
 a29:=Tryz.isAgg9
 z29:=Tryz.sizeOf9
 v29:=Tryz.zeroValue9
 t32:=Tryz.underlying234
 a32:=Tryz.isAgg234
 z32:=Tryz.sizeOf234
 v32:=Tryz.zeroValue234
 t35:=Tryz.underlying289
 a35:=Tryz.isAgg289
 z35:=Tryz.sizeOf289
 v35:=Tryz.zeroValue289
 t36:=Tryz.underlying290
 a36:=Tryz.isAgg290
 z36:=Tryz.sizeOf290
 v36:=Tryz.zeroValue290
 t41:=Tryz.underlying220
 a41:=Tryz.isAgg220
 z41:=Tryz.sizeOf220
 v41:=Tryz.zeroValue220
 t44:=Tryz.underlying297
 a44:=Tryz.isAgg297
 z44:=Tryz.sizeOf297
 v44:=Tryz.zeroValue297
 t46:=Tryz.underlying299
 a46:=Tryz.isAgg299
 z46:=Tryz.sizeOf299
 v46:=Tryz.zeroValue299
 t53:=Tryz.underlying315
 a53:=Tryz.isAgg315
 z53:=Tryz.sizeOf315
 v53:=Tryz.zeroValue315
 t57:=Tryz.underlying319
 a57:=Tryz.isAgg319
 z57:=Tryz.sizeOf319
 v57:=Tryz.zeroValue319
 t63:=Tryz.underlying325
 a63:=Tryz.isAgg325
 z63:=Tryz.sizeOf325
 v63:=Tryz.zeroValue325
 t64:=Tryz.underlying306
 a64:=Tryz.isAgg306
 z64:=Tryz.sizeOf306
 v64:=Tryz.zeroValue306}
end Go.Proofs
set_option maxHeartbeats 16000000
set_option maxRecDepth 100000
set_option linter.unusedVariables false
set_option linter.unusedSimpArgs false
namespace Go.Proofs.YtlflbkpmfhhikaaGreatDoor
open Go Go.Sx Go.Proofs Go.RowKit Go.Maps Go.Sort Go.Shelf Go.Lib
theorem v80_ {P:Prop} (h:P:=by
 rw [rounds_succ];go_wp2;rw [rounds_succ];go_wp2;go_ret;exact ⟨rfl,rfl⟩):P:=h
theorem or3 (a b c:Int) (blk:Nat) (w:World) (h0:w.cell? ⟨blk,0,none⟩=some (.int .i64 a)) (h1:w.cell? ⟨blk,1,none⟩=some (.int .i64 b)) (h2:w.cell? ⟨blk,2,none⟩=some (.int .i64 c)):
  Calls Tryz.prog 120 #[.slice (some ⟨blk,0,none⟩) 3 3] w fun e w'=>e= .returned (.int .i64 (if a=0 then (if b=0 then c else b) else a))∧w'=w:=by
 have hne:∀x:Int,x≠0→(x !=0)=true:=fun x h=>by simp [h]
 by_cases ha:a=0
 ·subst ha;rw [if_pos rfl];by_cases hb:b=0
  ·subst hb;rw [if_pos rfl];by_cases hc:c=0
   ·subst hc;go_enter Tryz.func120,Tryz.ntmps120;go_wp2;refine wp_loop_rounds 4 ?_;rw [rounds_succ];go_wp2;rw [rounds_succ];go_wp2;exact v80_
   ·have hc':=hne c hc;go_enter Tryz.func120,Tryz.ntmps120;go_wp2;refine wp_loop_rounds 4 ?_;rw [rounds_succ];go_wp2;exact v80_
  ·rw [if_neg hb];have hb':=hne b hb;go_enter Tryz.func120,Tryz.ntmps120;go_wp2;refine wp_loop_rounds 4 ?_;exact v80_
 ·rw [if_neg ha];have ha':=hne a ha;go_enter Tryz.func120,Tryz.ntmps120;go_wp2;refine wp_loop_rounds 4 ?_;rw [rounds_succ];go_wp2;go_ret;exact ⟨rfl,rfl⟩
def ordI (x y:K3):Int:=if compareInt x.1 y.1=0 then (if compareInt x.2.1 y.2.1=0 then compareInt x.2.2 y.2.2 else compareInt x.2.1 y.2.1) else compareInt x.1 y.1
theorem ZM_ (x y:Int) (W:World):Calls Tryz.prog 121 #[.int .i64 x,.int .i64 y] W fun e w'=>e= .returned (.int .i64 (compareInt x y))∧w'=W:=by
 have hcon:=AnyG.cmp_Compare_int Tryz.cmpI x y W;exact hcon
theorem v7_ {P:Prop} (h:P:=by
 obtain ⟨W2,hW2⟩:∃W2,(W.alloc (.cells #[.int .i64 x1,.int .i64 x2,.int .i64 x3] 47)).alloc (.cells #[.int .i64 y1,.int .i64 y2,.int .i64 y3] 47)=W2:=⟨_,rfl⟩;have hg:W2=grow W #[.cells #[.int .i64 x1,.int .i64 x2,.int .i64 x3] 47 (0,0),.cells #[.int .i64 y1,.int .i64 y2,.int .i64 y3] 47 (0,0)]:=by rw [←hW2,alloc_eq_grow,alloc_eq_grow,grow_grow];rfl
 have hb1:W2.heap[W.heap.size]?=some (.cells #[.int .i64 x1,.int .i64 x2,.int .i64 x3] 47 (0,0)):=by rw [←hW2];exact (Below.heap_alloc _ _ _ (by simp)).trans (World.alloc_heap_new W _)
 have hb2:W2.heap[W.heap.size+1]?=some (.cells #[.int .i64 y1,.int .i64 y2,.int .i64 y3] 47 (0,0)):=by rw [←hW2];have:=World.alloc_heap_new (W.alloc (.cells #[.int .i64 x1,.int .i64 x2,.int .i64 x3] 47)) (.cells #[.int .i64 y1,.int .i64 y2,.int .i64 y3] 47 (0,0));rwa [World.size_alloc] at this
 have a0:W2.cell? ⟨W.heap.size,0,none⟩=some (.int .i64 x1):=by simp [World.cell?,hb1]
 have a1:W2.cell? ⟨W.heap.size,1,none⟩=some (.int .i64 x2):=by simp [World.cell?,hb1]
 have a2:W2.cell? ⟨W.heap.size,2,none⟩=some (.int .i64 x3):=by simp [World.cell?,hb1]
 have b0:W2.cell? ⟨W.heap.size+1,0,none⟩=some (.int .i64 y1):=by simp [World.cell?,hb2]
 have b1:W2.cell? ⟨W.heap.size+1,1,none⟩=some (.int .i64 y2):=by simp [World.cell?,hb2]
 have b2:W2.cell? ⟨W.heap.size+1,2,none⟩=some (.int .i64 y3):=by simp [World.cell?,hb2]
 rw [hW2];generalize W.heap.size+1=B2 at*;generalize W.heap.size=B1 at*;clear hW2 hb1 hb2;go_still_tail 15,(by kernel_rfl);change wpStill _ _ W2.drew (fun a'=>wpList _ _ _ _ a' W2.drew) _ _;have hg3:∃os,W2.drew=grow (W.drewN 1) os:=⟨#[.cells #[.int .i64 x1,.int .i64 x2,.int .i64 x3] 47 (0,0),.cells #[.int .i64 y1,.int .i64 y2,.int .i64 y3] 47 (0,0)],by rw [hg];rfl⟩;have a0':W2.drew.cell? ⟨B1,0,none⟩=some (.int .i64 x1):=a0;have a1':W2.drew.cell? ⟨B1,1,none⟩=some (.int .i64 x2):=a1;have a2':W2.drew.cell? ⟨B1,2,none⟩=some (.int .i64 x3):=a2;have b0':W2.drew.cell? ⟨B2,0,none⟩=some (.int .i64 y1):=b0;have b1':W2.drew.cell? ⟨B2,1,none⟩=some (.int .i64 y2):=b1;have b2':W2.drew.cell? ⟨B2,2,none⟩=some (.int .i64 y3):=b2;clear a0 a1 a2 b0 b1 b2 hg;generalize W2.drew=W3 at*
 repeat still_step
 still_call (h1 _)
 repeat still_step
 still_call (h2 _)
 repeat still_step
 still_call (h3 _);refine wpStill_nil ?_;go_wp2_with (go_at_call 120;refine (h4 _ _ (qW_ _ _ _ 0) (qW_ _ _ _ 1) (qW_ _ _ _ 2)).mono ?_;rintro e w' ⟨rfl,rfl⟩);go_ret;obtain ⟨os,hos⟩:=hg3;exact ⟨rfl,1,os++#[.cells #[.int .i64 r1,.int .i64 r2,.int .i64 r3] 3 (0,0)],by rw [hos,alloc_eq_grow,grow_grow]⟩):P:=h
theorem qbT_ (x y:K3) (W:World):Calls Tryz.prog 83 #[.agg (c3 x).toArray,.agg (c3 y).toArray] W fun e w'=>e= .returned (.int .i64 (ordI x y))∧∃q os',w'=grow (W.drewN q) os':=by
 obtain ⟨x1,x2,x3⟩:=x;obtain ⟨y1,y2,y3⟩:=y;simp only [c3,ordI];have h1:=fun W=>ZM_ x1 y1 W;have h2:=fun W=>ZM_ x2 y2 W;have h3:=fun W=>ZM_ x3 y3 W;generalize compareInt x1 y1=r1 at*;generalize compareInt x2 y2=r2 at*;generalize compareInt x3 y3=r3 at*;have h4:=fun (blk:Nat) (w:World) (c0:w.cell? ⟨blk,0,none⟩=some (.int .i64 r1)) (c1:w.cell? ⟨blk,1,none⟩=some (.int .i64 r2)) (c2:w.cell? ⟨blk,2,none⟩=some (.int .i64 r3))=>or3 r1 r2 r3 blk w c0 c1 c2;generalize (if r1=0 then (if r2=0 then r3 else r2) else r1)=rr at*;go_enter Tryz.func83,Tryz.ntmps83;go_wp2;exact v7_
theorem qdE_ (blk off size:Nat) (w:World):CmpLays Tryz.prog 83 #[] c3 3 ordI blk off size w:=fun _ _ _ _ x y=>qbT_ x y _
theorem cmp0 {x y:Int}:compareInt x y=0↔x=y:=by unfold compareInt;split<;>(try split)<;>omega
theorem cmpL {x y:Int}:compareInt x y<0↔x<y:=by unfold compareInt;split<;>(try split)<;>omega
def ltK (x y:K3):Prop:=x.1<y.1∨(x.1=y.1∧(x.2.1<y.2.1∨(x.2.1=y.2.1∧x.2.2<y.2.2)))
instance {x y:K3}:Decidable (ltK x y):=by unfold ltK;infer_instance
theorem qdS_ {x y:K3}:ordI x y<0↔ltK x y:=by
 unfold ordI ltK;have h1:=@cmp0 x.1 y.1;have h2:=@cmp0 x.2.1 y.2.1;have h3:=@cmpL x.1 y.1;have h4:=@cmpL x.2.1 y.2.1;have h5:=@cmpL x.2.2 y.2.2;split
 ·split<;>omega
 ·omega
theorem ZA_ {x y:K3}:ltOf ordI x y=true↔ltK x y:=by
 unfold ltOf;rw [decide_eq_true_iff];exact qdS_
theorem Qas_ {x y:K3} (h1:¬ltK x y) (h2:¬ltK y x):x=y:=by
 obtain ⟨a,b,c⟩:=x;obtain ⟨d,e,f⟩:=y;unfold ltK at h1 h2;simp only at h1 h2;rw [show a=d by omega,show b=e by omega,show c=f by omega]
theorem swoK:SWO (ltOf ordI):=by
 constructor<;>intros<;>simp_all only [ZA_,Bool.not_eq_true,←Bool.not_eq_true]<;>unfold ltK at* <;>omega
theorem ZcL_:∀(l:List K3) (t:Nat),t<l.length*3→(c3s l)[t]?=some ((c3 (l.toArray)[t/3]!)[t % 3]!)
 | [],t,h=>by simp at h
 | k::l,t,h=>by
  have e:c3s (k::l)=c3 k++c3s l:=rfl;rw [e];by_cases h3:t<3
  ·rw [List.getElem?_append_left (by rw [qci_];exact h3)];have e1:t/3=0:=by omega
   have e2:t % 3=t:=by omega
   rw [e1,e2];have:(c3 k).length=3:=rfl;simp [List.getElem?_eq_getElem,h3,this]
  ·rw [List.getElem?_append_right (by rw [qci_];omega),qci_,ZcL_ l (t - 3) (by simp at h;omega)];obtain ⟨u,rfl⟩:∃u,t=u+3:=⟨t - 3,by omega⟩;have e1:(u+3)/3=u/3+1:=by omega
   have e2:(u+3) % 3=u % 3:=by omega
   rw [Nat.add_sub_cancel,e1,e2];simp
theorem ZdD_ (l:List K3):flatK c3 3 l.toArray=(c3s l).toArray:=by
 apply Array.ext';apply List.ext_getElem?;intro t;by_cases h:t<l.length*3
 ·rw [show (c3s l).toArray.toList=c3s l from rfl,ZcL_ l t h];simp [flatK,h]
 ·rw [List.getElem?_eq_none (by simp;omega),List.getElem?_eq_none (by simp [Zbm_];omega)]
theorem Zad_ {w:World} {g:Nat} {cur:Array Value} {e:TypeId} {xs:List Value} (hb:w.heap[g]?=some (.cells cur e (0,0))) (ht:cur.toList.take xs.length=xs):Holds id w g 0 xs.toArray:=by
 intro j hj;have hj':j<xs.length:=by simpa using hj
 refine ⟨?_,by simp [World.frozen?,hb]⟩;have h1:(cur.toList.take xs.length)[j]?=xs[j]?:=by rw [ht]
 rw [List.getElem?_take_of_lt hj'] at h1;simp only [World.cell?,hb,Nat.zero_add];simp only [Option.isSome_none,Bool.false_eq_true,if_false];rw [←Array.getElem?_toList,h1];simp [hj']
theorem zbB_ {w:World} {g n:Nat} {os:Array Obj} {cur:Array Value} {e:TypeId} {fr:Nat×Nat} (d:Array Value) (hb:w.heap[g]?=some (.cells cur e fr)):
  (grow (putRow id (Sort.ahead w n) g 0 d) os).heap[g]?=some (.cells (putCells id 0 d cur) e fr):=by
 have hg:g<w.heap.size:=(Array.getElem?_eq_some_iff.1 hb).1;rw [heap_grow_old _ _ (by simpa using hg)];simp [putRow,mapBlock,Sort.ahead,Array.getElem?_modify,hb,onCells]
theorem qaT_ {w:World} {g n:Nat} {os:Array Obj} (d:Array Value):w.grownBy (grow (putRow id (Sort.ahead w n) g 0 d) os) (some g):=by
 refine ⟨rfl,rfl,rfl,by simp,fun k hk hne=>?_⟩;rw [heap_grow_old _ _ (by simpa using hk)];have:g≠k:=fun e=>hne (by rw [e]);simp [putRow,mapBlock,Sort.ahead,Array.getElem?_modify,this]
theorem Zbc_ (cur:Array Value) (ts:List Value) (h:ts.length≤cur.size):(putCells id 0 ts.toArray cur).toList.take ts.length=ts:=by
 apply List.ext_getElem?;intro j;by_cases hj:j<ts.length
 ·rw [List.getElem?_take_of_lt hj,Array.getElem?_toList];simp [putCells,hj,show j<cur.size by omega]
 ·rw [List.getElem?_take_eq_none (by omega),List.getElem?_eq_none (by omega)]
theorem zaT_ {w:World} {base g cap n m:Nat} {e:TypeId} {os:Array Obj} {cur:Array Value} {ts:List Value} (hl:ts.length=m*3) (hbase:base≤g) (hb:w.heap[g]?=some (.cells cur e (0,0)))
  (h1:m≤cap) (h2:cap≤maxLen) (h3:cur.size=cap*3):
  (grow (putRow id (Sort.ahead w n) g 0 ts.toArray) os).ownsRow base e 3 (.slice (some ⟨g,0,none⟩) m cap) m ts:=
 ⟨by simp [hl],.inr ⟨g,cap,_,rfl,hbase,zbB_ _ hb,h1,h2,by simp [putCells,h3],by rw [←hl];exact Zbc_ cur ts (by omega)⟩⟩
def sort3 (l:List K3):List K3:=l.mergeSort fun x y=> !(ltOf ordI) y x
theorem ZP_ (l:List K3):(sort3 l).length=l.length:=by simp [sort3]
theorem v64_ {P:Prop} (h:P:=by
 rintro e w' ⟨he,n,os,hw⟩;refine ⟨he,n,os,?_⟩;rw [hw];unfold sortWorldK putRowK;rw [show (ss.toArray.toList.mergeSort fun x y=> !(ltOf ordI) y x)=sort3 ss from rfl,ZdD_]):P:=h
theorem qbd_ (gb cap:Nat) (ss:List K3) (W:World) (cur:Array Value) (hgb:W.heap[gb]?=some (.cells cur 47 (0,0))) (r4:cur.toList.take (ss.length*3)=c3s ss) (hsz:ss.length<4611686018427387904):
  Calls Tryz.prog 118 #[.slice (some ⟨gb,0,none⟩) ss.length cap,.func (.func 83) #[] #[]] W fun e w'=>e= .returned (.tuple #[])∧∃n os,w'=grow (putRow id (Sort.ahead W n) gb 0 (c3s (sort3 ss)).toArray) os:=by
 have hgl:gb<W.heap.size:=(Array.getElem?_eq_some_iff.1 hgb).1
 have hH:HoldsK c3 3 W gb 0 ss.toArray:=by
  unfold HoldsK;rw [ZdD_];exact Zad_ hgb (by rw [Zbm_];exact r4)
 have h:=AnyQ.slices_SortFunc_total Tryz.sortTx 3 Tryz.isAgg47 Tryz.sizeOf47 c3 (fun _=>rfl) (by intro x v hv;simp [c3] at hv;rcases hv with rfl | rfl | rfl<;>rfl) ordI swoK 83 #[] gb 0 cap ss.toArray W (fun _ _=>rfl) (qdE_ gb 0 ss.toArray.size W) hH hgl (by simpa using hsz) (by
  intro x y h1 h2;have e1:¬ltK x y:=fun h=>by rw [←ZA_] at h;rw [h] at h1;cases h1
  have e2:¬ltK y x:=fun h=>by rw [←ZA_] at h;rw [h] at h2;cases h2
  exact Qas_ e1 e2)
 refine (show Calls Tryz.prog 118 #[.slice (some ⟨gb,0,none⟩) ss.toArray.size cap,.func (.func 83) #[] #[]] W _ from h).mono ?_;exact v64_
theorem zbm_ (cap:Nat) (fv:Value) (W:World):Calls Tryz.prog 118 #[.slice none 0 cap,fv] W fun e w'=>e= .returned (.tuple #[])∧w'=W:=
 AnyF.slices_SortFunc_none {Tryz.sortTx with} none cap fv W
theorem v51_ {P:Prop} (h:P:=by
 have hss:ss=[]:=List.eq_nil_of_length_eq_zero hz;subst hss;gi_wp2_with (gi_at_call 118;refine (hwd _ _ _ _ (zbm_ 0 _ W)).mono ?_;rintro e w' ⟨rfl,rfl⟩);go_ret;exact ⟨.slice none 0 0,[],rfl,hS,by simpa [sort3] using hrow,by simp,hb⟩):P:=h
theorem v66_ {P:Prop} (h:P:=by
 exact ⟨_,ss,rfl,hS,zaT_ (by rw [Zbm_,ZP_]) hbase hgb r1 r2 r3,hnil,hb.grown (qaT_ _) hb.size (fun j hj=>by cases hj;exact hbase)⟩):P:=h
theorem Qbm_ (F:Fence) (n:Nat) (h6:F.fn 81) (h8:F.fn 117) (h9:F.fn 118) (h11:F.fn 146) (hro:F.round=none) (hwd:∀f args w R,Calls Tryz.prog f args w R→CallsIn F (n - 1) Tryz.prog f args w R) (hFg:∀g,F.fn g) (hn:4≤n) (g:Nat) (lb:Array Value) (eg:∀args w,(callFunc g args).run Tryz.prog w= .ok (.enter g args) w)
  (S:List K3→Prop) (N:Nat) (hN:N≤maxLen) (hNb:N*24≤140737488355328) (w:World) (hseq:SeqGives F (n - 1 - 1 - 1) Tryz.prog g lb ek3 S N w):
  CallsIn F n Tryz.prog 81 #[.func (.func g) #[] lb,.func (.func 83) #[] #[]] w fun e w'=>∃(v:Value) (ss:List K3),e= .returned v∧S ss∧w'.ownsRow w.heap.size 47 3 v ss.length (c3s (sort3 ss))∧(v= .slice none 0 0↔ss=[])∧Below w.heap.size w w':=by
 have h1:1≤n:=by omega
 refine callsIn_of_wp Tryz.func81 rfl h6 ?_ hro;simp only [Tryz.ntmps81,List.size_toArray,List.length_cons,List.length_nil,Nat.reduceAdd,Nat.reduceSub,Array.replicate_succ,Array.replicate_zero,List.push_toArray,List.append_toArray,List.nil_append,List.cons_append];gi_wp2_with (gi_at_call 117;refine (Zbg_ F (n - 1) h8 h11 hro (by omega) g lb (hFg g) eg _ N hN hNb _ hseq.bounded).mono ?_;rintro e W ⟨v,ss,rfl,⟨hS,hlen⟩,hrow,hnil,hb⟩);rcases hrow.2 with ⟨rfl,hz⟩ | ⟨gb,cap,cur,rfl,hbase,hgb,r1,r2,r3,r4⟩
 ·exact v51_
 ·have hsz:ss.length<4611686018427387904:=by omega
  have cS:=qbd_ gb cap ss W cur hgb r4 hsz;gi_wp2_with (gi_at_call 118;refine (hwd _ _ _ _ cS).mono ?_;rintro e w' ⟨rfl,nn,os,rfl⟩);go_ret;exact v66_
theorem qcM_ (F:Fence) (n:Nat) (h7:F.fn 82) (hro:F.round=none) (mb:Option Nat) (w:World):
  CallsIn F n Tryz.prog 82 #[.map mb] w fun e w'=>e= .returned (.func (.func 119) #[] #[.pointer (some ⟨w.heap.size,0,none⟩)])∧w'=w.alloc (.cells #[.map mb] 195):=by
 refine callsIn_of_wp Tryz.func82 rfl h7 ?_ hro;simp only [Tryz.ntmps82,List.size_toArray,List.length_cons,List.length_nil,Nat.reduceAdd,Nat.reduceSub,Array.replicate_succ,Array.replicate_zero,List.push_toArray,List.append_toArray,List.nil_append,List.cons_append];gi_wp2;go_ret;exact ⟨rfl,rfl⟩
end Go.Proofs.YtlflbkpmfhhikaaGreatDoor
