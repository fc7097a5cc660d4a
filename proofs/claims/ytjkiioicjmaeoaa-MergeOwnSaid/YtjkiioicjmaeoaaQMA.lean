/- The seat's sync.WaitGroup, and its entries without a body. -/
import Derived.Test.YtjkiioicjmaeoaaQZA
import Derived.Test.YtjkiioicjmaeoaaQZE
import Derived.Test.YtjkiioicjmaeoaaProg
import Derived.Conc.WgArith
import Derived.Conc.SmallLaws
import Derived.Laws.LoneSync
set_option linter.unusedVariables false
set_option linter.unusedSimpArgs false
set_option maxRecDepth 100000
namespace Go.Proofs.Ytjkiioicjmaeoaa
open Go Go.Sx Go.Proofs
instance : TAgg Try.prog 3 false := ⟨Try.isAgg3⟩
instance : TIt Try.prog 3 .i64 := ⟨Try.underlying3⟩
instance : TZ Try.prog 3 (.int .i64 0) := ⟨Try.zeroValue3⟩
instance : TIn Try.prog 3 1 8 (.int .i64 0) := ⟨_, rfl, rfl, rfl, rfl, rfl, by decide⟩
instance : TSz Try.prog 4 1 := ⟨Try.sizeOf4⟩
instance : TAgg Try.prog 4 false := ⟨Try.isAgg4⟩
instance : TBo Try.prog 4 := ⟨Try.underlying4⟩
instance : TAgg Try.prog 9 false := ⟨Try.isAgg9⟩
instance : TSt Try.prog 9 := ⟨Try.underlying9⟩
instance : TIt Try.prog 21 .i32 := ⟨Try.underlying21⟩
instance : TSl Try.prog 22 25 := ⟨Try.underlying22⟩
instance : TSz Try.prog 25 1 := ⟨Try.sizeOf25⟩
instance : TAgg Try.prog 25 false := ⟨Try.isAgg25⟩
instance : TSl Try.prog 25 37 := ⟨Try.underlying25⟩
instance : TZ Try.prog 25 (.slice none 0 0) := ⟨Try.zeroValue25⟩
instance : TZL Try.prog 25 [.slice none 0 0] := ⟨_, Try.zeroValue25, rfl⟩
instance : TIn Try.prog 25 1 24 (.slice none 0 0) := ⟨_, rfl, rfl, rfl, rfl, rfl, by decide⟩
instance : TSz Try.prog 37 4 := ⟨Try.sizeOf37⟩
instance : TAgg Try.prog 37 true := ⟨Try.isAgg37⟩
instance : TPl Try.prog 37 [(0, 1), (1, 1), (2, 1), (3, 1)] := ⟨_, Try.underlying37, fun w => by simp [List.mapM_cons]⟩
instance : TFd Try.prog 37 0 0 9 := ⟨_, _, Try.underlying37, rfl, rfl, rfl, fun w => ⟨0, Try.sizeOf9 w⟩⟩
instance : TFd Try.prog 37 1 1 3 := ⟨_, _, Try.underlying37, rfl, rfl, rfl, fun w => ⟨0, Try.sizeOf3 w⟩⟩
instance : TFd Try.prog 37 2 2 4 := ⟨_, _, Try.underlying37, rfl, rfl, rfl, fun w => ⟨0, Try.sizeOf4 w⟩⟩
instance : TFd Try.prog 37 3 3 9 := ⟨_, _, Try.underlying37, rfl, rfl, rfl, fun w => ⟨0, Try.sizeOf9 w⟩⟩
instance : TZ Try.prog 37 (.agg #[.string ⟨#[]⟩, .int .i64 0, .bool false, .string ⟨#[]⟩]) := ⟨Try.zeroValue37⟩
instance : TZL Try.prog 37 [.string ⟨#[]⟩, .int .i64 0, .bool false, .string ⟨#[]⟩] := ⟨_, Try.zeroValue37, rfl⟩
instance : TIn Try.prog 37 4 48 (.agg #[.string ⟨#[]⟩, .int .i64 0, .bool false, .string ⟨#[]⟩]) := ⟨_, rfl, rfl, rfl, rfl, rfl, by decide⟩
instance : TSl Try.prog 39 50 := ⟨Try.underlying39⟩
instance : TSz Try.prog 50 2 := ⟨Try.sizeOf50⟩
instance : TAgg Try.prog 50 true := ⟨Try.isAgg50⟩
instance : TPl Try.prog 50 [(0, 1), (1, 1)] := ⟨_, Try.underlying50, fun w => by simp [List.mapM_cons]⟩
instance : TFd Try.prog 50 0 0 9 := ⟨_, _, Try.underlying50, rfl, rfl, rfl, fun w => ⟨0, Try.sizeOf9 w⟩⟩
instance : TZ Try.prog 50 (.agg #[.string ⟨#[]⟩, .string ⟨#[]⟩]) := ⟨Try.zeroValue50⟩
instance : TZL Try.prog 50 [.string ⟨#[]⟩, .string ⟨#[]⟩] := ⟨_, Try.zeroValue50, rfl⟩
instance : TIn Try.prog 50 2 32 (.agg #[.string ⟨#[]⟩, .string ⟨#[]⟩]) := ⟨_, rfl, rfl, rfl, rfl, rfl, by decide⟩
instance : TSz Try.prog 51 1 := ⟨Try.sizeOf51⟩
instance : TAgg Try.prog 51 false := ⟨Try.isAgg51⟩
instance : TIt Try.prog 56 .u64 := ⟨Try.underlying56⟩
instance : TFd Try.prog 58 2 0 56 := ⟨_, _, Try.underlying58, rfl, rfl, rfl, fun w => ⟨0, Try.sizeOf56 w⟩⟩
instance : TIt Try.prog 59 .u32 := ⟨Try.underlying59⟩
instance : TFd Try.prog 61 1 0 58 := ⟨_, _, Try.underlying61, rfl, rfl, rfl, fun w => ⟨0, Try.sizeOf58 w⟩⟩
instance : TFd Try.prog 61 2 1 59 := ⟨_, _, Try.underlying61, rfl, rfl, rfl, fun w => ⟨0, Try.sizeOf59 w⟩⟩
instance : TZL Try.prog 61 [.int .u64 0, .int .u32 0] := ⟨_, Try.zeroValue61, rfl⟩
instance : TSl Try.prog 62 63 := ⟨Try.underlying62⟩
instance : TSz Try.prog 63 1 := ⟨Try.sizeOf63⟩
instance : TAgg Try.prog 63 false := ⟨Try.isAgg63⟩
instance : TPt Try.prog 63 := ⟨_, Try.underlying63⟩
instance : TZ Try.prog 63 (.pointer none) := ⟨Try.zeroValue63⟩
instance : TZL Try.prog 63 [.pointer none] := ⟨_, Try.zeroValue63, rfl⟩
instance : TIn Try.prog 63 1 8 (.pointer none) := ⟨_, rfl, rfl, rfl, rfl, rfl, by decide⟩
instance : TAgg Try.prog 64 false := ⟨Try.isAgg64⟩
instance : TPl Try.prog 66 [(0, 1), (1, 4), (5, 1)] := ⟨_, Try.underlying66, fun w => by simp [List.mapM_cons]⟩
instance : TFd Try.prog 66 0 0 64 := ⟨_, _, Try.underlying66, rfl, rfl, rfl, fun w => ⟨0, Try.sizeOf64 w⟩⟩
instance : TFd Try.prog 66 1 1 37 := ⟨_, _, Try.underlying66, rfl, rfl, rfl, fun w => ⟨3, Try.sizeOf37 w⟩⟩
instance : TFd Try.prog 66 2 5 4 := ⟨_, _, Try.underlying66, rfl, rfl, rfl, fun w => ⟨0, Try.sizeOf4 w⟩⟩
instance : TSz Try.prog 71 1 := ⟨Try.sizeOf71⟩
instance : TAgg Try.prog 71 false := ⟨Try.isAgg71⟩
instance : TMap Try.prog 71 9 3 := ⟨Try.underlying71⟩
instance : TZL Try.prog 71 [.map none] := ⟨_, Try.zeroValue71, rfl⟩
instance : TBody Try.prog 7 Try.f7 (Try.f7.body.getD .skip) 166 := ⟨Try.func7, rfl, Try.ntmps7⟩
instance : TFn Try.prog 8 := ⟨Try.call8, _, Try.func8, rfl⟩
instance : TBody Try.prog 8 Try.f8 (Try.f8.body.getD .skip) 62 := ⟨Try.func8, rfl, Try.ntmps8⟩
instance : TFn Try.prog 9 := ⟨Try.call9, _, Try.func9, rfl⟩
instance : TBody Try.prog 9 Try.f9 (Try.f9.body.getD .skip) 24 := ⟨Try.func9, rfl, Try.ntmps9⟩
instance : TFn Try.prog 10 := ⟨Try.call10, _, Try.func10, rfl⟩
instance : TBody Try.prog 10 Try.f10 (Try.f10.body.getD .skip) 8 := ⟨Try.func10, rfl, Try.ntmps10⟩
instance : TFn Try.prog 11 := ⟨Try.call11, _, Try.func11, rfl⟩
instance : TBody Try.prog 11 Try.f11 (Try.f11.body.getD .skip) 94 := ⟨Try.func11, rfl, Try.ntmps11⟩
instance : TFn Try.prog 12 := ⟨Try.call12, _, Try.func12, rfl⟩
instance : TBody Try.prog 12 Try.f12 (Try.f12.body.getD .skip) 16 := ⟨Try.func12, rfl, Try.ntmps12⟩
instance : TFn Try.prog 14 := ⟨Try.call14, _, Try.func14, rfl⟩
instance : TBody Try.prog 14 Try.f14 (Try.f14.body.getD .skip) 26 := ⟨Try.func14, rfl, Try.ntmps14⟩
instance : TFn Try.prog 15 := ⟨Try.call15, _, Try.func15, rfl⟩
instance : TBody Try.prog 15 Try.f15 (Try.f15.body.getD .skip) 24 := ⟨Try.func15, rfl, Try.ntmps15⟩
instance : TFn Try.prog 16 := ⟨Try.call16, _, Try.func16, rfl⟩
instance : TBody Try.prog 16 Try.f16 (Try.f16.body.getD .skip) 10 := ⟨Try.func16, rfl, Try.ntmps16⟩
instance : TFn Try.prog 17 := ⟨Try.call17, _, Try.func17, rfl⟩
instance : TBody Try.prog 17 Try.f17 (Try.f17.body.getD .skip) 75 := ⟨Try.func17, rfl, Try.ntmps17⟩
instance : TFn Try.prog 18 := ⟨Try.call18, _, Try.func18, rfl⟩
instance : TBody Try.prog 18 Try.f18 (Try.f18.body.getD .skip) 17 := ⟨Try.func18, rfl, Try.ntmps18⟩
instance : TFn Try.prog 19 := ⟨Try.call19, _, Try.func19, rfl⟩
instance : TBody Try.prog 19 Try.f19 (Try.f19.body.getD .skip) 21 := ⟨Try.func19, rfl, Try.ntmps19⟩
instance : TFn Try.prog 23 := ⟨Try.call23, _, Try.func23, rfl⟩
instance : TBody Try.prog 23 Try.f23 (Try.f23.body.getD .skip) 21 := ⟨Try.func23, rfl, Try.ntmps23⟩
instance : TFn Try.prog 24 := ⟨Try.call24, _, Try.func24, rfl⟩
instance : TBody Try.prog 24 Try.f24 (Try.f24.body.getD .skip) 117 := ⟨Try.func24, rfl, Try.ntmps24⟩
instance : TBody Try.prog 25 Try.f25 (Try.f25.body.getD .skip) 11 := ⟨Try.func25, rfl, Try.ntmps25⟩
instance : TFn Try.prog 27 := ⟨Try.call27, _, Try.func27, rfl⟩
instance : TBody Try.prog 27 Try.f27 (Try.f27.body.getD .skip) 23 := ⟨Try.func27, rfl, Try.ntmps27⟩
instance : TFn Try.prog 28 := ⟨Try.call28, _, Try.func28, rfl⟩
instance : TBody Try.prog 28 Try.f28 (Try.f28.body.getD .skip) 16 := ⟨Try.func28, rfl, Try.ntmps28⟩
instance : TFn Try.prog 29 := ⟨Try.call29, _, Try.func29, rfl⟩
instance : TBody Try.prog 29 Try.f29 (Try.f29.body.getD .skip) 34 := ⟨Try.func29, rfl, Try.ntmps29⟩
instance : TFn Try.prog 30 := ⟨Try.call30, _, Try.func30, rfl⟩
instance : TBody Try.prog 30 Try.f30 (Try.f30.body.getD .skip) 84 := ⟨Try.func30, rfl, Try.ntmps30⟩
instance : TFn Try.prog 32 := ⟨Try.call32, _, Try.func32, rfl⟩
instance : TBody Try.prog 32 Try.f32 (Try.f32.body.getD .skip) 42 := ⟨Try.func32, rfl, Try.ntmps32⟩
instance : TFn Try.prog 33 := ⟨Try.call33, _, Try.func33, rfl⟩
instance : TBody Try.prog 33 Try.f33 (Try.f33.body.getD .skip) 8 := ⟨Try.func33, rfl, Try.ntmps33⟩
instance : TFn Try.prog 34 := ⟨Try.call34, _, Try.func34, rfl⟩
instance : TBody Try.prog 34 Try.f34 (Try.f34.body.getD .skip) 27 := ⟨Try.func34, rfl, Try.ntmps34⟩
instance : TFn Try.prog 36 := ⟨Try.call36, _, Try.func36, rfl⟩
instance : TBody Try.prog 36 Try.f36 (Try.f36.body.getD .skip) 24 := ⟨Try.func36, rfl, Try.ntmps36⟩
instance : TFn Try.prog 44 := ⟨Try.call44, _, Try.func44, rfl⟩
instance : TBody Try.prog 44 Try.f44 (Try.f44.body.getD .skip) 10 := ⟨Try.func44, rfl, Try.ntmps44⟩
instance : TFn Try.prog 46 := ⟨Try.call46, _, Try.func46, rfl⟩
instance : TBody Try.prog 46 Try.f46 (Try.f46.body.getD .skip) 7 := ⟨Try.func46, rfl, Try.ntmps46⟩
instance : TFn Try.prog 52 := ⟨Try.call52, _, Try.func52, rfl⟩
instance : TBody Try.prog 52 Try.f52 (Try.f52.body.getD .skip) 13 := ⟨Try.func52, rfl, Try.ntmps52⟩
instance : TFn Try.prog 55 := ⟨Try.call55, _, Try.func55, rfl⟩
instance : TBody Try.prog 55 Try.f55 (Try.f55.body.getD .skip) 19 := ⟨Try.func55, rfl, Try.ntmps55⟩
instance : TMix Try.prog := ⟨rfl⟩
end Go.Proofs.Ytjkiioicjmaeoaa
namespace Go.X
open Go Go.Sx Go.Conc Go.ConcN Go.Conc.Lib
open Go.ConcR (KK wgBlock WgAt stA smA rd wr mk)
def rootF (P : Program) : Frame := { (default : Frame) with fn := P.funcs.size, defers := [], mode := .panicking [goexitEntry] }
section
variable {P : Program} {W0 : GW}
theorem stepG_born {main : Bool} {f : FuncId} {fn : Func} {c : Code} {cap : Array Value} {w : World} (hf : P.funcs[f]? = some fn) (hname : (fn.name == "runtime.NumGoroutine") = false) (hb : fn.body = some c) :
    stepG P main (born P { target := .fn (.func f) cap, args := #[] }) w = .go (G ((baseD f).at { tmps := cap ++ Array.replicate (fn.ntmps - cap.size) undef, defers := [] } [.code c]) [rootF P]) w #[] := by
  have h1 : ¬ fn.name = "runtime.NumGoroutine" := by simpa using hname
  rw [← enter_atD cap hf hb]
  simp [G, stepG, born, rootF, unwind, callDeferred, invoke, callFunc, hf, h1, hb, GStep.after, seen_none]
theorem quits_kid {f : FuncId} {fn : Func} {a : Act} {todo : List Item} (hf : P.funcs[f]? = some fn) (hr : fn.results = #[]) (hd : a.defers = []) : QuitsD P 2 0 (G { (baseD f).at a todo with mode := .returning } [rootF P]) := by
  refine .ctl (g' := G (rootF P) []) rfl (fun w => ?_) (.ctl (g' := { frame := rootF P, callers := [], status := .finished, dying := none }) rfl (fun w => ?_) ⟨rfl, rfl⟩)
  · have h1 : (results fn a.tmps).run P w = .ok (.tuple #[]) w := results_none hr _ P w
    have h2 : (results fn a.tmps).events P w #[] = #[] := events_results_none hr _ _
    have h3 : ((baseD f).at a todo).fn = f := rfl
    simp [G, stepG, unwind, doReturn, Frame.at, baseD, hd, hf, h1, h2, rootF, seen_none, GStep.after, goexitEntry]
  · simp [G, stepG, unwind, rootF, Frame.catches, goexitEntry]
    rfl
theorem kid_ok [Inhabited Unit] {f : FuncId} {fn : Func} {code : Code} {k : Nat} [hb : TBody P f fn code k] {Lk : WgLink} (HL : WgLib P Lk) (hr : fn.results = #[]) (hname : (fn.name == "runtime.NumGoroutine") = false) {q : Cs} {cap : List Value} (hty : q.ty = Lk.tWg)
    (hC : ∃ (C : Nat) (cs : Array Value) (T : TypeId) (fz : Nat × Nat) (v : Value), q.base C = some (.cells cs T fz) ∧ cs[0]? = some v) (hl : Nat.ble cap.length k = true)
    (h : Ex P ⟨k, []⟩ (setS W0 (.snd q)) (bodyPostD [dcall Lk.done #[.pointer (some ⟨q.wg, 0, none⟩)]] fun w => ∃ q1 : Cs, w.s = .snd q1 ∧ q1.closed = true ∧ q1.ty = q.ty ∧ q1.wg = q.wg ∧ q1.base = q.base) (parF 0 cap) Heap.empty [] code []) :
    KidOk P W0 { target := .fn (.func f) cap.toArray, args := #[] } q := by
  intro Wr ho ht hpost
  refine .ctl rfl (fun main w => stepG_born hb.get hname hb.body) ?_
  have e := hp_worldOf (m := Heap.empty) (N := 0) (W := Wr.toWorld) (fun _ _ => rfl)
  obtain ⟨w0, hw0⟩ : ∃ w0 : GW, w0 = ⟨⟨worldOf Heap.empty 0 Wr.toWorld, Wr.post⟩, .snd q⟩ := ⟨_, rfl⟩
  have hm : hp w0.toWorld = Heap.empty := by rw [hw0]; exact e
  have hs0 : w0.s = .snd q := by rw [hw0]
  have hsm : Sm Wr w0 := by rw [hw0]; exact ⟨rfl, rfl, rfl⟩
  have hS : StG (setS W0 (.snd q)) Heap.empty w0 [] := by
    refine ⟨⟨⟨?_, ?_, rfl, ?_⟩, fun _ _ h => (by cases h), Heap.empty, trivial, fun _ _ h => (by cases h), fun _ => .inl rfl⟩, hs0, ?_, ?_⟩
    · rw [hw0]; exact ho
    · rw [hw0]; exact ht
    · rw [hw0]; exact low_hide
    · rw [hw0]; exact hpost
    · rw [hm]; exact fun _ => .inl rfl
  have leave : ∀ (a : Act) (todo : List Item) (w1 : GW), Sm Wr w1 → a.defers = [dcall Lk.done #[.pointer (some ⟨q.wg, 0, none⟩)]] → (∃ q1 : Cs, w1.s = .snd q1 ∧ q1.closed = true ∧ q1.ty = q.ty ∧ q1.wg = q.wg ∧ q1.base = q.base) →
      MI P kd Wr.toWorld (SB P Wr) (G { (baseD f).at a todo with mode := .returning } [rootF P]) (xw w1) := by
    rintro a todo w1 hsm1 hd ⟨q1, e1, e2, e3, e4, e5⟩
    refine .ctl rfl (fun main w => stepG_unwind_enter hd HL.f_done (Go.ConcR.Gen.nm_done Lk) rfl) ?_
    refine MI.special (sb_mono P Wr) ?_
    unfold xw
    rw [e1]
    refine SP.quit rfl e2 ⟨?_, fun w h1 h2 => ⟨23, ?_⟩⟩
    · obtain ⟨C, cs, T, fz, v, c1, c2⟩ := hC
      refine ⟨C, cs, T, fz, v, by rw [e5]; exact c1, c2, fun w h1 h2 => ⟨23, ?_⟩⟩
      rw [e3, hty, e4] at h1 ⊢
      exact Gen.doneN (n := 0) (k := 1) (val := v) HL rfl (quits_kid hb.get hr rfl) w ⟨h1, h2⟩
    · rw [e3, hty, e4] at h1 ⊢
      rw [e4] at h2
      exact Gen.doneN (n := 0) (k := 2) (val := .int .u32 0) HL rfl (quits_kid hb.get hr rfl) w ⟨h1, h2⟩
  have hx : (⟨Heap.empty, .snd q⟩ : XW Gh) = xw w0 := by unfold xw; rw [hm, hs0]
  rw [hx]
  refine h.run _ w0 (frOk_par hb.ntmps hl) hS Wr hsm (baseD f) [] [rootF P] (by simp [baseD]) fun e a' x' qq => ?_
  obtain ⟨w1, hrep, he, hd, hw1⟩ := qq
  rw [hrep.eq]
  rcases he with rfl | rfl
  · exact .ctl rfl (fun _ _ => stepG_end) (leave a' [] w1 hrep.sm hd hw1)
  · exact fun todo => leave a' todo w1 hrep.sm hd hw1
end
end Go.X
namespace Go.X
open Go Go.Sx Go.Conc Go.ConcN
section
variable {P : Program} {n : NF} {F : Slots} {H : Heap} {L : List HProp} {dst : Option Tmp} {ty : TypeId} {pos : String} {aft : Array Edge} {g : Option (Nat × Bool)} {x y : Operand} {a b : Int} {T T' : TypeId}
theorem op_shl32 (hx : opv F x = some (.int .u64 a)) (hy : opv F y = some (.int .u64 32)) : OpP P n ⟨dst, .binOp .shl T x y T', ty, pos, aft, g⟩ F H L (.int .u64 (IntKind.u64.wrap (a * 4294967296))) :=
  .mk fun _ w hF _ => by simp only [execOp, hF.opv hx, hF.opv hy]; simp [go_sem, Op.shift, IntKind.bits]
theorem op_shr32 (hx : opv F x = some (.int .u64 a)) (hy : opv F y = some (.int .u64 32)) : OpP P n ⟨dst, .binOp .shr T x y T', ty, pos, aft, g⟩ F H L (.int .u64 (a.fdiv 4294967296)) :=
  .mk fun _ w hF _ => by simp only [execOp, hF.opv hx, hF.opv hy]; simp [go_sem, Op.shift, IntKind.bits]
theorem op_and64 (hx : opv F x = some (.int .u64 a)) (hy : opv F y = some (.int .u64 b)) : OpP P n ⟨dst, .binOp .and T x y T', ty, pos, aft, g⟩ F H L (.int .u64 (bits .and .u64 a b)) :=
  .mk fun _ w hF _ => by simp only [execOp, hF.opv hx, hF.opv hy]; simp [go_sem]
instance : POp P (.binOp .shl T x y T') [.int .u64 a, .int .u64 32] True (.int .u64 (IntKind.u64.wrap (a * 4294967296))) := ⟨fun _ h => op_shl32 (opvs2 h).1 (opvs2 h).2⟩
instance : POp P (.binOp .shr T x y T') [.int .u64 a, .int .u64 32] True (.int .u64 (a.fdiv 4294967296)) := ⟨fun _ h => op_shr32 (opvs2 h).1 (opvs2 h).2⟩
instance : POp P (.binOp .and T x y T') [.int .u64 a, .int .u64 b] True (.int .u64 (bits .and .u64 a b)) := ⟨fun _ h => op_and64 (opvs2 h).1 (opvs2 h).2⟩
end
theorem st_V {v : Nat} (h : v < 2147483648) : IntKind.i32.wrap (Int.fdiv ((v : Int) * Go.ConcR.KK) 4294967296) = v := by
  have e : Int.fdiv ((v : Int) * Go.ConcR.KK) 4294967296 = v := by
    rw [Int.fdiv_eq_ediv_of_nonneg _ (by decide)]; simp only [Go.ConcR.KK]; omega
  rw [e, IntKind.wrap_i32]; omega
theorem st_bub {v : Nat} (h : v < 2147483648) : bits .and .u64 ((v : Int) * Go.ConcR.KK) 2147483648 = 0 := by
  have := Go.ConcN.st_flag v 0 h (by decide); simpa [Go.ConcR.KK] using this
theorem st_wait {v : Nat} (h : v < 2147483648) : bits .and .u64 ((v : Int) * Go.ConcR.KK) 2147483647 = 0 := by
  have := Go.ConcN.st_waiters v 0 h (by decide); simpa [Go.ConcR.KK] using this
class TUP (P : Program) (s d : TypeId) : Prop where
  ex : ∃ t, P.underlying s = some (.pointer t) ∧ P.underlying d = some .unsafePointer ∧ (P.info? t).map (fun i => decide (i.size = 0)) = some false
section
variable {q : Bool} {P : Program} {n : NF} {W0 : GW} {Q : Exit → Act → GW → Prop} {F : Slots} {H : Heap} {L : List HProp} {ops : Array Oper} {rest : List Oper} {k : List Fr} {ty : TypeId} {pos : String} {aft : Array Edge} {d : Tmp}
theorem ops_up {c : Co} {T T' : TypeId} {x : Operand} {off : Nat} [h : TUP P T T'] (hs : W0.s = .co c) (hx : opv F x = some (.pointer (some ⟨c.wg, off, none⟩))) (ho : off < 2) (hk : Ops P n W0 Q ((d, .pointer (some ⟨c.wg, off, none⟩)) :: F) H L q ops rest k) (hd : Nat.blt d n = true := by rfl) :
    Ops P n W0 Q F H L q ops (⟨some d, .convert T T' x, ty, pos, aft, none⟩ :: rest) k := ⟨sx_pk hd (fun a w hF hS Wr hsm w1 he hl hp hg => by
  obtain ⟨t, h1, h2, h3⟩ := h.ex
  obtain ⟨st, sm, hw⟩ := hg c (hS.sh.trans hs)
  have hc : ∃ v, w1.cell? ⟨c.wg, off, none⟩ = some v := by
    have : off = 0 ∨ off = 1 := by omega
    rcases this with rfl | rfl
    · exact ⟨_, wg_st hw⟩
    · exact ⟨_, wg_sm hw⟩
  obtain ⟨v, hc⟩ := hc
  have e1 := Go.run_convert_to_unsafe (P := P) h1 h2 h3 hc
  have e2 := Go.Conc.events_convert_to_unsafe (P := P) h1 h2 h3 hc #[]
  refine ⟨by simp [execOp, hF.opv hx, e1], fun e he' => ?_⟩
  have hev : (execOp a.eval ⟨some d, .convert T T' x, ty, pos, aft, none⟩).events P w1 #[] = #[] := by simp [execOp, hF.opv hx, e2]
  rw [hev] at he'
  simp at he') hk.run⟩
end
end Go.X
namespace Go.Proofs.Ytjkiioicjmaeoaa
open Go Go.Sx Go.Proofs
structure Entry where
  Key : ByteArray
  Seq : Int
  Del : Bool
  Value : ByteArray
  deriving DecidableEq
abbrev Entry.cv (x : Entry) : List Go.Value := [.string x.Key, .int .i64 x.Seq, .bool x.Del, .string x.Value]
def rEntry : Rd Entry := fun H c x => c = x.cv ∧ x.Key.size ≤ cap47 ∧ fits x.Seq ∧ x.Value.size ≤ cap47
instance : RdOk rEntry 4 := ⟨fun ⟨e, h0, h1, h2⟩ => by subst e; rfl, fun ⟨e, h0, h1, h2⟩ => by subst e; simp only [List.all_cons, List.all_nil]; rfl, fun hl ⟨e, h0, h1, h2⟩ => ⟨e, h0, h1, h2⟩⟩
def zEntry : Entry := ⟨⟨#[]⟩, 0, false, ⟨#[]⟩⟩
theorem rds_Entry : Rds Try.prog 37 rEntry := by
  intro H enc W fuel cs d ps h hw
  have hst := Try.underlying37
  obtain ⟨hlen, he⟩ := trod_fields hst h hw
  have hl : cs.length = 4 := hlen.trans (by kernel_rfl)
  obtain ⟨y0, hy0⟩ := he 0 _ rfl 0 1 ⟨rfl, by kernel_rfl⟩ (rds_str Try.underlying9)
  obtain ⟨y1, hy1⟩ := he 1 _ rfl 1 1 ⟨rfl, by kernel_rfl⟩ (rds_int Try.underlying3)
  obtain ⟨y2, hy2⟩ := he 2 _ rfl 2 1 ⟨rfl, by kernel_rfl⟩ (rds_bool Try.underlying4)
  obtain ⟨y3, hy3⟩ := he 3 _ rfl 3 1 ⟨rfl, by kernel_rfl⟩ (rds_str Try.underlying9)
  obtain ⟨e0, k0_0⟩ := hy0
  have t0 := cutd (o' := 1) e0 rfl
  obtain ⟨e1, k1_0⟩ := hy1
  have t1 := cutd (o' := 2) e1 rfl
  have e2 := hy2
  have t2 := cutd (o' := 3) e2 rfl
  obtain ⟨e3, k3_0⟩ := hy3
  have t3 := cutd (o' := 4) e3 rfl
  refine ⟨⟨y0, y1, y2, y3⟩, ⟨?_, k0_0, k1_0, k3_0⟩⟩
  refine t0.trans ?_
  rw [t1, t2, t3, List.drop_eq_nil_of_le (Nat.le_of_eq hl)]
  try rfl
structure Pair where
  Key : ByteArray
  Value : ByteArray
  deriving DecidableEq
abbrev Pair.cv (x : Pair) : List Go.Value := [.string x.Key, .string x.Value]
def rPair : Rd Pair := fun H c x => c = x.cv ∧ x.Key.size ≤ cap47 ∧ x.Value.size ≤ cap47
instance : RdOk rPair 2 := ⟨fun ⟨e, h0, h1⟩ => by subst e; rfl, fun ⟨e, h0, h1⟩ => by subst e; simp only [List.all_cons, List.all_nil]; rfl, fun hl ⟨e, h0, h1⟩ => ⟨e, h0, h1⟩⟩
end Go.Proofs.Ytjkiioicjmaeoaa
namespace Go.Proofs.Ytjkiioicjmaeoaa
open Go Go.Sx Go.X Go.Proofs Go.Conc Go.Conc.Lib Go.ConcR.Gen
abbrev link : WgLink := { add := 24, done := 26, wait := 30, relMerge := 37, disable := 38, enable := 39, inBubble := 40, associate := 41, fatal := 42, uOr := 43, uAdd := 44, raceRead := 45, uLoad := 46, uStore := 47, disassociate := 48, semrelease := 49, acquire := 50, isAssociated := 51, uCas := 52, raceWrite := 53, semacquire := 54, orU64 := 56, addU64 := 57, loadU64 := 58, storeU64 := 59, casU64 := 60, tWgP := 76, tUP := 78, tAssoc := 79, tWg := 61, tAU := 58, tU64 := 56, tUint := 34, tU32 := 59, tPU32 := 83, tPAU := 94, tPU64 := 96, tNoCopy := 53, tANoCopy := 54, tAlign64 := 55 }
theorem wgLib : WgLib Try.prog link :=
  ⟨Try.func24, Try.func26, Try.func30, Try.func37, Try.func38, Try.func39, Try.func40, Try.func41, Try.func42, Try.func43, Try.func44, Try.func45, Try.func46, Try.func47, Try.func48, Try.func49, Try.func50, Try.func51, Try.func52, Try.func53, Try.func54, Try.func56, Try.func57, Try.func58, Try.func59, Try.func60, Try.underlying76, Try.runUnderlying76, Try.sizeOf76, Try.isAgg76, Try.zeroValue76, Try.underlying78, Try.runUnderlying78, Try.sizeOf78, Try.isAgg78, Try.zeroValue78, Try.underlying79, Try.runUnderlying79, Try.sizeOf79, Try.isAgg79, Try.zeroValue79, Try.underlying61, Try.runUnderlying61, Try.sizeOf61, Try.isAgg61, Try.zeroValue61, Try.underlying58, Try.runUnderlying58, Try.sizeOf58, Try.isAgg58, Try.zeroValue58, Try.underlying56, Try.runUnderlying56, Try.sizeOf56, Try.isAgg56, Try.zeroValue56, Try.underlying34, Try.runUnderlying34, Try.sizeOf34, Try.isAgg34, Try.zeroValue34, Try.underlying59, Try.runUnderlying59, Try.sizeOf59, Try.isAgg59, Try.zeroValue59, Try.underlying83, Try.runUnderlying83, Try.sizeOf83, Try.isAgg83, Try.zeroValue83, Try.underlying94, Try.runUnderlying94, Try.sizeOf94, Try.isAgg94, Try.zeroValue94, Try.underlying96, Try.runUnderlying96, Try.sizeOf96, Try.isAgg96, Try.zeroValue96, Try.underlying0, Try.runUnderlying0, Try.sizeOf0, Try.isAgg0, Try.zeroValue0, Try.underlying3, Try.runUnderlying3, Try.sizeOf3, Try.isAgg3, Try.zeroValue3, Try.underlying4, Try.runUnderlying4, Try.sizeOf4, Try.isAgg4, Try.zeroValue4, Try.underlying9, Try.runUnderlying9, Try.sizeOf9, Try.isAgg9, Try.zeroValue9, Try.underlying20, Try.runUnderlying20, Try.sizeOf20, Try.isAgg20, Try.zeroValue20, Try.underlying21, Try.runUnderlying21, Try.sizeOf21, Try.isAgg21, Try.zeroValue21, (by kernel_rfl), (by kernel_rfl)⟩
instance : TMark Try.prog 38 .disable := ⟨_, ⟨wgLib.f_disable, x_disable_n link, x_disable_b link, x_disable_x link⟩, x_disable_f link, by simp⟩
instance : TMark Try.prog 39 .enable := ⟨_, ⟨wgLib.f_enable, x_enable_n link, x_enable_b link, x_enable_x link⟩, x_enable_f link, by simp⟩
instance : TMarkAt Try.prog 50 .acquire := ⟨_, ⟨wgLib.f_acquire, x_acquire_n link, x_acquire_b link, x_acquire_x link⟩, x_acquire_f link, by simp⟩
instance : TMarkAt Try.prog 45 .read := ⟨_, ⟨wgLib.f_raceRead, x_raceRead_n link, x_raceRead_b link, x_raceRead_x link⟩, x_raceRead_f link, by simp⟩
instance : TMarkAt Try.prog 53 .write := ⟨_, ⟨wgLib.f_raceWrite, x_raceWrite_n link, x_raceWrite_b link, x_raceWrite_x link⟩, x_raceWrite_f link, by simp⟩
instance : TConst Try.prog 40 (.bool false) := ⟨_, ⟨wgLib.f_inBubble, x_inBubble_n link, x_inBubble_b link, x_inBubble_x link⟩, x_inBubble_f link⟩
instance : TAtLoad Try.prog 58 := ⟨_, ⟨wgLib.f_loadU64, x_loadU64_n link, x_loadU64_b link, x_loadU64_x link⟩, x_loadU64_f link⟩
instance : TAtAdd Try.prog 57 := ⟨_, ⟨wgLib.f_addU64, x_addU64_n link, x_addU64_b link, x_addU64_x link⟩, x_addU64_f link⟩
instance : TAtCas Try.prog 60 := ⟨_, ⟨wgLib.f_casU64, x_casU64_n link, x_casU64_b link, x_casU64_x link⟩, x_casU64_f link⟩
instance : TSemA Try.prog 54 := ⟨_, ⟨wgLib.f_semacquire, x_semacquire_n link, x_semacquire_b link, x_semacquire_x link⟩, x_semacquire_f link⟩
instance : TUP Try.prog 76 78 := ⟨_, Try.underlying76, Try.underlying78, by kernel_rfl⟩
instance : TUP Try.prog 83 78 := ⟨_, Try.underlying83, Try.underlying78, by kernel_rfl⟩
instance : TCh Try.prog 51 3 := ⟨_, Try.underlying51⟩
instance : TCh Try.prog 64 37 := ⟨_, Try.underlying64⟩
end Go.Proofs.Ytjkiioicjmaeoaa
