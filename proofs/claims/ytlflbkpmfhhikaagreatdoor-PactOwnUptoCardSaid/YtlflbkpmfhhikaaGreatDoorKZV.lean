/- Proves PactOwnUptoCardSaid: for every input of bulk at most 1048576, PactOwn returns true and the input reads behind the call as it read before; the listed variables of the library are tied to the program's text. No condition but that bulk. -/
import Derived.Test.YtlflbkpmfhhikaaGreatDoorKKC
import Derived.Test.YtlflbkpmfhhikaaGreatDoorKLR
import Derived.Test.YtlflbkpmfhhikaaGreatDoorKZU
import Derived.Test.YtlflbkpmfhhikaaGreatDoorCards
import Derived.Test.YtlflbkpmfhhikaaGreatDoorTie
import Derived.SevenTiedAt
import Derived.Deep.DeepHandedRow
import Derived.Deep.DeepWitnessRowRef
set_option maxHeartbeats 16000000
set_option maxRecDepth 100000
set_option linter.unusedVariables false
set_option linter.unusedSimpArgs false
namespace Go.Proofs.YtlflbkpmfhhikaaGreatDoor
open Go Go.Sx Go.Proofs Go.ChangeShapes Go.WideShapes Go.ChangeAt Go.RowKit
theorem pactOwn_lifted (os:Os) (started:os.Started) (H:Type) (enc:TypeId×Value→H) (S:Stop.Interp):
  ReturnsInHanded {} Tryz.checked os 8 .any ((Rows.OpenSpec.upto Rows.pactOwnSpec).preRow enc Tryz.prog Tryz.f8 Rows.pactOwnUptoRow.domain false Rows.pactOwnUptoRow.laid) (((Rows.OpenSpec.upto Rows.pactOwnSpec).at S).post enc Tryz.prog Tryz.f8 false true false false):=by
 have hx:∃places,DataW.whole enc Tryz.prog ((World.doorLaid Tryz.prog 62 os).forCall (fun _ _=>0) ⟨#[],#[nilS],[]⟩).memory Tryz.f8.params.toList (Rows.OpenSpec.upto Rows.pactOwnSpec).vars false (#[nilS]:Array Value).toList 8=some ([.nil],[],places):=⟨[],by kernel_rfl⟩;obtain ⟨places,hx⟩:=hx
 refine returnsInHanded_of_row (C:=Tryz.checked) (s:=(Rows.OpenSpec.upto Rows.pactOwnSpec)) own0 started (by kernel_rfl) Tryz.func8
  (witness_row_atRef (enc:=enc) (C:=Tryz.checked) false (World.doorLaid Tryz.prog 62 os) #[nilS] rfl (by kernel_rfl) (by kernel_rfl) (by kernel_rfl)
   (OpenSpec.preRow_of_cond 8 hx (by kernel_rfl) (fun k hk=>by cases hk;kernel_rfl) (by kernel_rfl) (Qek_ os _))) ?_
 intro W base args ds gs before hval hW _ _ hwt hL _ _;have hT:=tab5 hL;have hW':=hW;obtain ⟨p,q,hA,hV,rfl,_,_⟩:=hW;have hA':DataW.TrodAll enc Tryz.prog W 0 (fun _=>true) true [35] args.toList ds p:=hA;obtain ⟨v0,d0,rfl,rfl,h0⟩:=trodAll_one hA';obtain ⟨rfl,rfl⟩:=trodVars_none hV;obtain ⟨a0,len0,cap0,rfl⟩:=okWide_slice Tryz.underlying35 (hval 0 35 v0 rfl rfl);obtain ⟨works,u0,hu0,hworks⟩:=ZdG_ (ZaU_ Tryz.underlying35 (by kernel_rfl) (by kernel_rfl) (by decide) zdu_) h0 (qdH_ (i:=0) hwt rfl rfl)
 cases hu0
 refine (zbx_ hT hworks W [] (zdr_ W)).mono fun e W' h=>?_;exact zdH_ Zek_ (by kernel_rfl) rfl hW' rfl rfl (fun _ _ _=>trodAll_mk1 (shut_bool Tryz.underlying4 true)) h
theorem pactOwn_proved:Rows.PactOwnUptoSaid:=
 OpenClaim.holds_of_cond 8 Tryz.f8 rfl rfl rfl rfl rfl rfl rfl ⟨rfl,rfl,rfl,rfl,rfl⟩ rfl rfl rfl rfl rfl (by kernel_rfl) Tryz.func8 (by kernel_rfl)
  (of_decide_eq_true (by kernel_rfl)) (by unfold Func.isWrapper;first | (rw [if_pos (by decide+kernel)];kernel_rfl) | (rw [if_neg (by decide+kernel)];exact ⟨rfl,rfl⟩))
  (fun os started H enc _ S=>by rw [OpenClaim.pre_eq_preRow];exact pactOwn_lifted os started H enc S)
theorem pactOwn_plain (f : FuncId) (fn : Func) (hf : Tryz.pinned.checked.prog.funcNamed "convoy/convoylaw17.PactOwn" = some f) (hfn : Tryz.pinned.checked.prog.funcs[f]? = some fn) :
    true=Tryz.pinned.checked.prog.looks []∧∀(j:Nat) t,fn.params[j]?=some t→Tryz.pinned.checked.prog.wantsStandIn t=false:=by
  obtain rfl : f = 8 := Option.some.inj ((show Tryz.prog.funcNamed "convoy/convoylaw17.PactOwn" = some 8 by kernel_rfl).symm.trans hf) |>.symm
  obtain rfl:fn=Tryz.f8:=(Option.some.inj (Tryz.func8.symm.trans hfn)).symm;refine ⟨by kernel_rfl,fun j t ht=>?_⟩;have hm:t∈Tryz.f8.params.toList:=by simpa using Array.mem_of_getElem? ht
  have hall:(Tryz.f8.params.toList.all fun u=> !Tryz.prog.wantsStandIn u)=true:=by kernel_rfl
  exact (show Tryz.prog.wantsStandIn t=false by simpa using List.all_eq_true.1 hall t hm)
theorem pactOwn_card:Rows.PactOwnUptoCardSaid:=
 Claim7.holds_tied_plain_at .later [] _ _ _ _ pactOwn_proved (fun _ h=>by cases h) (by kernel_rfl) (fun _ h=>by cases h) pactOwnUpto_row_tie rfl ⟨rfl,rfl⟩ (by kernel_rfl) rfl pactOwn_plain (by kernel_rfl)
end Go.Proofs.YtlflbkpmfhhikaaGreatDoor
