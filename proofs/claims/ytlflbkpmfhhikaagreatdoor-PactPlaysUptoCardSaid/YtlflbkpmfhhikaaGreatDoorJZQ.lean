/- Proves PactPlaysUptoCardSaid: for every input of bulk at most 1048576, PactPlays returns true and leaves the input as it was. No other condition. -/
import Derived.Test.YtlflbkpmfhhikaaGreatDoorJKC
import Derived.Test.YtlflbkpmfhhikaaGreatDoorJLY
import Derived.Test.YtlflbkpmfhhikaaGreatDoorJZP
import Derived.Test.YtlflbkpmfhhikaaGreatDoorCards
import Derived.Test.YtlflbkpmfhhikaaGreatDoorTie
import Derived.SevenTiedAt
import Derived.Deep.DeepHandedRow
import Derived.Deep.DeepWitnessRowRef
set_option maxHeartbeats 16000000
set_option maxRecDepth 100000
set_option linter.unusedVariables false
set_option linter.unusedSimpArgs false
namespace Go.Proofs.YtlflbkpmfhhikaaGreatDoor
open Go Go.Sx Go.Proofs Go.ChangeShapes Go.WideShapes Go.ChangeAt Go.RowKit
theorem pactPlays_lifted (os:Os) (started:os.Started) (H:Type) (enc:TypeId×Value→H) (S:Stop.Interp):
  ReturnsInHanded {} Tryz.checked os 7 .any ((Rows.OpenSpec.upto Rows.pactPlaysSpec).preRow enc Tryz.prog Tryz.f7 Rows.pactPlaysUptoRow.domain false Rows.pactPlaysUptoRow.laid) (((Rows.OpenSpec.upto Rows.pactPlaysSpec).at S).post enc Tryz.prog Tryz.f7 false true false false):=by
 have hx:∃places,DataW.whole enc Tryz.prog ((World.doorLaid Tryz.prog 62 os).forCall (fun _ _=>0) ⟨#[],#[I 0,nilS],[]⟩).memory Tryz.f7.params.toList (Rows.OpenSpec.upto Rows.pactPlaysSpec).vars false (#[I 0,nilS]:Array Value).toList 8=some ([.lit (.int .i64 0),.nil],[],places):=⟨[],by kernel_rfl⟩;obtain ⟨places,hx⟩:=hx
 refine returnsInHanded_of_row (C:=Tryz.checked) (s:=(Rows.OpenSpec.upto Rows.pactPlaysSpec)) own0 started (by kernel_rfl) Tryz.func7
  (witness_row_atRef (enc:=enc) (C:=Tryz.checked) false (World.doorLaid Tryz.prog 62 os) #[I 0,nilS] rfl (by kernel_rfl) (by kernel_rfl) (by kernel_rfl)
   (OpenSpec.preRow_of_cond 8 hx (by kernel_rfl) (fun k hk=>by cases hk;kernel_rfl) (by kernel_rfl) (QeA_ os _))) ?_
 intro W base args ds gs before hval hW _ _ hwt hL _ _;have hT:=tab5 hL;have hW':=hW;obtain ⟨p,q,hA,hV,rfl,_,_⟩:=hW;have hA':DataW.TrodAll enc Tryz.prog W 0 (fun _=>true) true [3,22] args.toList ds p:=hA;obtain ⟨v0,v1,d0,d1,p0,q0,rfl,rfl,rfl,h0,h1⟩:=trodAll_two hA';obtain ⟨rfl,rfl⟩:=trodVars_none hV;obtain ⟨nodes,rfl,rfl,rfl,wnodes⟩:=open_int Tryz.underlying3 (hval 0 3 v0 rfl rfl) h0;obtain ⟨a1,len1,cap1,rfl⟩:=okWide_slice Tryz.underlying22 (hval 1 22 v1 rfl rfl);obtain ⟨script,u1,hu1,hscript⟩:=zdT_ (ZaB_ Tryz.underlying22 (by kernel_rfl) (by kernel_rfl) (by decide) qdB_) h1 (QdT_ (i:=1) hwt rfl rfl)
 cases hu1
 refine (qbm_ hT (Zec_ wnodes) hscript W [] (zdD_ W)).mono fun e W' h=>?_;exact ZdT_ ZeA_ (by kernel_rfl) rfl hW' rfl rfl (fun _ _ _=>trodAll_mk1 (shut_bool Tryz.underlying4 true)) h
theorem pactPlays_proved:Rows.PactPlaysUptoSaid:=
 OpenClaim.holds_of_cond 7 Tryz.f7 rfl rfl rfl rfl rfl rfl rfl ⟨rfl,rfl,rfl,rfl,rfl⟩ rfl rfl rfl rfl rfl (by kernel_rfl) Tryz.func7 (by kernel_rfl)
  (of_decide_eq_true (by kernel_rfl)) (by unfold Func.isWrapper;first | (rw [if_pos (by decide+kernel)];kernel_rfl) | (rw [if_neg (by decide+kernel)];exact ⟨rfl,rfl⟩))
  (fun os started H enc _ S=>by rw [OpenClaim.pre_eq_preRow];exact pactPlays_lifted os started H enc S)
theorem pactPlays_plain (f : FuncId) (fn : Func) (hf : Tryz.pinned.checked.prog.funcNamed "convoy/convoylaw17.PactPlays" = some f) (hfn : Tryz.pinned.checked.prog.funcs[f]? = some fn) :
    true=Tryz.pinned.checked.prog.looks []∧∀(j:Nat) t,fn.params[j]?=some t→Tryz.pinned.checked.prog.wantsStandIn t=false:=by
  obtain rfl : f = 7 := Option.some.inj ((show Tryz.prog.funcNamed "convoy/convoylaw17.PactPlays" = some 7 by kernel_rfl).symm.trans hf) |>.symm
  obtain rfl:fn=Tryz.f7:=(Option.some.inj (Tryz.func7.symm.trans hfn)).symm;refine ⟨by kernel_rfl,fun j t ht=>?_⟩;have hm:t∈Tryz.f7.params.toList:=by simpa using Array.mem_of_getElem? ht
  have hall:(Tryz.f7.params.toList.all fun u=> !Tryz.prog.wantsStandIn u)=true:=by kernel_rfl
  exact (show Tryz.prog.wantsStandIn t=false by simpa using List.all_eq_true.1 hall t hm)
theorem pactPlays_card:Rows.PactPlaysUptoCardSaid:=
 Claim7.holds_tied_plain_at .later [] _ _ _ _ pactPlays_proved (fun _ h=>by cases h) (by kernel_rfl) (fun _ h=>by cases h) pactPlaysUpto_row_tie rfl ⟨rfl,rfl⟩ (by kernel_rfl) rfl pactPlays_plain (by kernel_rfl)
end Go.Proofs.YtlflbkpmfhhikaaGreatDoor
