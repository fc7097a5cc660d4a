/- Shifts and masks of u64. No program in sight. -/
import Derived.Test.YtjkiioicjmaeoaaKZD
import Derived.Conc.WgGenN2
import Derived.Conc.AppendEvents3
import Derived.Conc.Token
import Derived.Conc.WgArith
import Derived.Conc.SmallLaws
import Derived.Laws.LoneSync
set_option linter.unusedVariables false
set_option linter.unusedSimpArgs false
namespace Go.X
open Go Go.Sx Go.Conc Go.ConcN
open Go.ConcR (KK wgBlock WgAt stA smA rd wr mk)
section
variable {q : Bool} {P : Program} {n : NF} {W0 : GW} {Q : Exit → Act → GW → Prop} {F : Slots} {H : Heap} {L : List HProp} {ops : Array Oper} {rest : List Oper} {k : List Fr} {op : Op} {ty : TypeId} {pos : String} {aft : Array Edge} {d : Tmp} {dst : Option Tmp} {g : Option (Nat × Bool)} {K : Value → GW → Heap → List HProp → Prop}
theorem opG_sel {c : Cs} {y z1 z2 : Value} {ys : List Value} {e1 e2 : TypeId} {x1 x2 x3 : Operand} [h1 : TZ P e1 z1] [h2 : TZ P e2 z2] (hs : W0.s = .snd c) (hrem : c.rem = y :: ys) (hoff : c.off = false) (hcl : c.closed = false) (hd : c.fst = true → Disj c.base c.win)
    (hx1 : opv F x1 = some (.chan (some c.ch))) (hx2 : opv F x2 = some y) (hx3 : opv F x3 = some (.chan (some c.ech)))
    (k0 : K (.tuple #[.int .i64 0, .bool false, z2]) (setS W0 (.snd { c with rem := ys, fst := false })) H L) (k1 : K (.tuple #[.int .i64 1, .bool false, z2]) (setS W0 (.snd { c with off := true, fst := false })) H L) :
    OpG P n W0 ⟨dst, .select #[⟨x1, some x2, e1⟩, ⟨x3, none, e2⟩] true, ty, pos, aft, g⟩ F H L K := by
  intro a w next Q hF hS hn Wr hsm ops j rest b kk cs ho hw hb hc
  have hws : w.s = .snd c := hS.sh.trans hs
  have hdj : Disj (hp w.toWorld) c.base := by
    have := hS.dj
    rw [hs] at this
    simp only [pool] at this
    split at this
    · exact disj_of_join_left this
    · exact this
  have hrun : ∀ w1, (execOp a.eval ⟨dst, .select #[⟨x1, some x2, e1⟩, ⟨x3, none, e2⟩] true, ty, pos, aft, g⟩).run P w1 = .ok (.comm #[scase c.ch y z1, rcase c.ech z2] true .select) w1 := fun w1 => by
    simp only [execOp]
    simp [hF.opv hx1, hF.opv hx2, hF.opv hx3, h1.run, h2.run, scase, rcase]
  have hev : ∀ w1, (execOp a.eval ⟨dst, .select #[⟨x1, some x2, e1⟩, ⟨x3, none, e2⟩] true, ty, pos, aft, g⟩).events P w1 #[] = #[] := fun w1 => by
    simp only [execOp]
    simp [h1.run, h2.run]
  have srv : ∀ v, Go.Conc.served (G (b.at a (.inRegion ops (j :: rest) :: kk)) cs) v = G (b.at (a.put dst v) (.inRegion ops rest :: kk)) cs := fun v => by rw [served_G, ho]; rfl
  refine MI.special (sb_mono P Wr) ?_
  unfold xw
  rw [hws]
  refine SP.sel (z1 := z1) (z2 := z2) hrem hoff hcl rfl (fun w1 he hl => by rw [stepG_comm ho hw hb (hrun w1), listed_nil (hev w1)]) ?_ ?_
  · obtain ⟨w', q1, q2⟩ := stG_make hS hsm (m := hp w.toWorld) (.snd { c with rem := ys, fst := false }) (bnd_hp _) hS.ro hS.own hdj
    have e : (G (b.at a (.inRegion ops (j :: rest) :: kk)) cs).finishComm P #[scase c.ch y z1, rcase c.ech z2] .select 0 undef false = G (b.at (a.put dst (.tuple #[.int .i64 0, .bool false, z2])) (.inRegion ops rest :: kk)) cs := by
      rw [← srv, finishComm_served]
      exact congrArg _ (by simp [commResult, scase, rcase, goInt])
    rw [e]
    exact hc _ _ ⟨w', q1, hn _ _ _ _ _ k0 q2⟩
  · obtain ⟨w', q1, q2⟩ := stG_make hS hsm (m := hp w.toWorld) (.snd { c with off := true, fst := false }) (bnd_hp _) hS.ro hS.own hdj
    have e : (G (b.at a (.inRegion ops (j :: rest) :: kk)) cs).finishComm P #[scase c.ch y z1, rcase c.ech z2] .select 1 z2 false = G (b.at (a.put dst (.tuple #[.int .i64 1, .bool false, z2])) (.inRegion ops rest :: kk)) cs := by
      rw [← srv, finishComm_served]
      exact congrArg _ (by simp [commResult, scase, rcase, goInt])
    rw [e]
    exact hc _ _ ⟨w', q1, hn _ _ _ _ _ k1 q2⟩
theorem opG_clos {c : Co} {x : Operand} {at_ : Array TypeId} (hs : W0.s = .co c) (hst : c.st = .run) (hsh : c.shut = false) (hwn : c.wn = false) (hx : opv F x = some (.chan (some c.ech)))
    (hk : K (.tuple #[]) (setS W0 (.co { c with shut := true })) H L) : OpG P n W0 ⟨dst, .call ⟨.builtin .close, #[x], at_⟩, ty, pos, aft, g⟩ F H L K := by
  intro a w next Q hF hS hn Wr hsm ops j rest b kk cs ho hw hb hc
  have hws : w.s = .co c := hS.sh.trans hs
  refine MI.special (sb_mono P Wr) ?_
  unfold xw
  rw [hws]
  refine SP.clos hst hsh hwn rfl ?_ (fun w1 s r _ _ _ hch => stepG_close_sync ho hw hb rfl (hF.opv hx) hch) ?_
  · simp [mayWake, G, Frame.at, ho]
  · exact hc _ _ (hat_turn hS hsm hs rfl fun w' h => hn _ _ _ _ _ hk h)
theorem sx_pk {v : Value} {rest : List Oper} (hd : Nat.blt d n = true) (h : ∀ a w, FrOk n a F → StG W0 H w L → (⟨some d, op, ty, pos, aft, none⟩ : Oper).pkV P a.eval w v) (hk : SL q P n W0 ((d, v) :: F) H L ops Q rest) :
    SL q P n W0 F H L ops Q (⟨some d, op, ty, pos, aft, none⟩ :: rest) := by
  cases q with
  | false =>
    intro a w hF hS
    unfold wpListV
    rw [if_pos (by simp [Region.wanted])]
    exact wpV_of_pk (h a w hF hS) (hk _ _ (hF.put hd v) hS)
  | true => exact ⟨d, v, rfl, hd, .inl fun a w hF hS => ⟨by simp [Region.wanted], .inr (h a w hF hS)⟩, hk⟩
theorem cell_of_pool {p : Heap} {w : World} {b off : Nat} {v : Value} (hl : p.le (rp w)) (hc : hcell p b off = some v) : w.cell? ⟨b, off, none⟩ = some v := by
  unfold hcell at hc
  cases h : p b with
  | none => rw [h] at hc; cases hc
  | some o =>
    rw [h] at hc
    cases o <;> try (cases hc; done)
    have := hl b _ h
    simp only [rp] at this
    simp only at hc
    simp [World.cell?, this, hc]
theorem pool_ne {p : Heap} {b off : Nat} {v : Value} (hc : hcell p b off = some v) : p b ≠ none := by
  unfold hcell at hc
  intro h
  rw [h] at hc; cases hc
theorem pk_load1 {a : Act} {w : GW} {t : TypeId} {x : Operand} {b off : Nat} {v : Value} [ht : TAgg P t false] (hF : FrOk n a F) (hS : StG W0 H w L) (hx : opv F x = some (.pointer (some ⟨b, off, none⟩))) (hc : hcell (pool W0.s) b off = some v) :
    (⟨dst, .load t x, ty, pos, aft, g⟩ : Oper).pkV P a.eval w v := by
  intro Wr hsm w1 he hl hp _
  rw [hS.sh] at hp ⊢
  have h1 := cell_of_pool hp hc
  refine ⟨by simp [execOp, hF.opv hx, Instr.loadAt, Instr.sureAddr, run_loadVar1 (t := t) h1], fun e he' => ?_⟩
  have hev : (execOp a.eval ⟨dst, .load t x, ty, pos, aft, g⟩).events P w1 #[] = #[⟨.cell ⟨b, off, none⟩, false, false⟩] := by
    simp [execOp, hF.opv hx, Instr.loadAt, Instr.sureAddr, loadVar, ht.run, h1]
  rw [hev] at he'
  simp at he'
  subst he'
  exact .inl ⟨pool_ne hc, rfl⟩
theorem pk_loadN {a : Act} {w : GW} {t : TypeId} {x : Operand} {b off m : Nat} {vs : List Value} [ht : TAgg P t true] [hz : TSz P t m] (hF : FrOk n a F) (hS : StG W0 H w L) (hx : opv F x = some (.pointer (some ⟨b, off, none⟩))) (hc : HRow (pool W0.s) b off vs) (hl' : vs.length = m) (hm : 0 < m) :
    (⟨dst, .load t x, ty, pos, aft, g⟩ : Oper).pkV P a.eval w (.agg vs.toArray) := by
  intro Wr hsm w1 he hl hp _
  rw [hS.sh] at hp ⊢
  have h1 : ∀ j v, vs[j]? = some v → w1.cell? ((⟨b, off, none⟩ : Addr).add j) = some v := fun j v hj => by
    rw [Addr.add_lit]; exact cell_of_pool hp (hc j v hj)
  refine ⟨by simp [execOp, hF.opv hx, Instr.loadAt, Instr.sureAddr, run_loadVarN (t := t) hl' h1], fun e he' => ?_⟩
  have hev : (execOp a.eval ⟨dst, .load t x, ty, pos, aft, g⟩).events P w1 #[] = (loadCells ⟨b, off, none⟩ m).events P w1 #[] := by
    simp [execOp, hF.opv hx, Instr.loadAt, Instr.sureAddr, loadVar, ht.run, hz.run]
  rw [hev] at he'
  have := events_loadCellsFrom_at (P := P) ⟨b, off, none⟩ (fun x => x = b) rfl m 0 #[] w1 #[] (fun j hj => by
    have := h1 j vs[j] (List.getElem?_eq_getElem (by omega))
    rw [Nat.zero_add, this]; rfl) e he'
  rcases this with h | ⟨ad, e1, e2, e3⟩
  · simp at h
  · unfold Peek
    rw [e1]
    refine .inl ⟨?_, e2⟩
    rw [e3]
    exact pool_ne (hc 0 vs[0] (List.getElem?_eq_getElem (by omega)))
theorem ops_pk1 {t : TypeId} {x : Operand} {b off : Nat} {v : Value} [ht : TAgg P t false] (hx : opv F x = some (.pointer (some ⟨b, off, none⟩))) (hc : hcell (pool W0.s) b off = some v) (hk : Ops P n W0 Q ((d, v) :: F) H L q ops rest k) (hd : Nat.blt d n = true := by rfl) :
    Ops P n W0 Q F H L q ops (⟨some d, .load t x, ty, pos, aft, none⟩ :: rest) k := ⟨sx_pk hd (fun _ _ hF hS => pk_load1 hF hS hx hc) hk.run⟩
theorem ops_pkN {t : TypeId} {x : Operand} {b off m : Nat} {vs : List Value} [ht : TAgg P t true] [hz : TSz P t m] (hx : opv F x = some (.pointer (some ⟨b, off, none⟩))) (hc : HRow (pool W0.s) b off vs) (hl : vs.length = m) (hk : Ops P n W0 Q ((d, .agg vs.toArray) :: F) H L q ops rest k)
    (hm : 0 < m := by decide) (hd : Nat.blt d n = true := by rfl) : Ops P n W0 Q F H L q ops (⟨some d, .load t x, ty, pos, aft, none⟩ :: rest) k := ⟨sx_pk hd (fun _ _ hF hS => pk_loadN hF hS hx hc hl hm) hk.run⟩
theorem ex_quiet1 [hm : TMix P] {id m : Nat} {l : List Oper} {o1 : Oper} (hml : l.length = m) (hreach : ∀ j, j < m → Go.Sx.Reach (l ++ [o1]).toArray m j) (hok : flowOk (l ++ [o1]).toArray = true)
    (h : SQ P n W0 H L (l ++ [o1]).toArray (fun _ a w => wpListV P (l ++ [o1]).toArray (Kx P Q k) [o1] a w) l F) : Ex P n W0 Q F H L (.region id (l ++ [o1]).toArray true) k := ⟨fun a w hF hS => wpV_region_draw fun t => by
  simp only [Region.schedule, hm.h, Bool.true_or, if_true]
  exact flow_sound1 (by simp) hml hreach hok (fun _ _ h => h) h hF hS t⟩
theorem ops_makeChan {t e : TypeId} {x : Operand} {sz by_ : Nat} {z : Value} [ht : TCh P t e] [hi : TIn P e sz by_ z] (hx : opv F x = some (.int .i64 0)) (hk : ∀ b, Ops P n W0 Q ((d, .chan (some b)) :: F) H (pt b (.chan 0 #[] false 0 0 false) :: L) false ops rest k) (hd : Nat.blt d n = true := by rfl) :
    Ops P n W0 Q F H L false ops (⟨some d, .makeChan t x, ty, pos, aft, none⟩ :: rest) k := by
  refine ops_w rfl hd (.of_run fun a w hF hS => ?_)
  have hs : St _ H (w.alloc (.chan 0 #[] false 0 0 false)) (pt w.heap.size (.chan 0 #[] false 0 0 false) :: L) := hS.alloc (hS.env.of rfl rfl rfl) rfl
  obtain ⟨d', hu⟩ := ht.und
  obtain ⟨i, h1, _, _, _, _, _⟩ := hi.ex
  have hmax : (0 : Int) ≤ IntKind.i64.max := by decide
  refine ⟨_, H, _, _, ?_, .refl _, hk _, hs⟩
  simp only [execOp, hF.opv hx]
  simp [Instr.makeChan, asInt, asIntOf, run_underlying hu, typeInfo, h1, newObj, Sem.run]
end
end Go.X
namespace Go.X
open Go Go.Sx Go.Conc Go.ConcN Go.Conc.Lib
open Go.ConcR (KK wgBlock WgAt stA smA rd wr mk)
def rootF (P : Program) : Frame := { (default : Frame) with fn := P.funcs.size, defers := [], mode := .panicking [goexitEntry] }
section
variable {P : Program} {W0 : GW}
theorem stepG_born {main : Bool} {f : FuncId} {fn : Func} {c : Code} {cap : Array Value} {w : World} (hf : P.funcs[f]? = some fn) (hname : (fn.name == "runtime.NumGoroutine") = false) (hb : fn.body = some c) :
    stepG P main (born P { target := .fn (.func f) cap, args := #[] }) w = .go (G ((baseD f).at { tmps := cap ++ Array.replicate (fn.ntmps - cap.size) undef, defers := [] } [.code c]) [rootF P]) w #[] := by
  have h1 : ¬ fn.name = "runtime.NumGoroutine" := by simpa using hname
  rw [← enter_atD cap hf hb]
  simp [G, stepG, born, rootF, unwind, callDeferred, invoke, callFunc, hf, h1, hb, GStep.after, seen_none]
theorem quits_kid {f : FuncId} {fn : Func} {a : Act} {todo : List Item} (hf : P.funcs[f]? = some fn) (hr : fn.results = #[]) (hd : a.defers = []) : QuitsD P 2 0 (G { (baseD f).at a todo with mode := .returning } [rootF P]) := by
  refine .ctl (g' := G (rootF P) []) rfl (fun w => ?_) (.ctl (g' := { frame := rootF P, callers := [], status := .finished, dying := none }) rfl (fun w => ?_) ⟨rfl, rfl⟩)
  · have h1 : (results fn a.tmps).run P w = .ok (.tuple #[]) w := results_none hr _ P w
    have h2 : (results fn a.tmps).events P w #[] = #[] := events_results_none hr _ _
    have h3 : ((baseD f).at a todo).fn = f := rfl
    simp [G, stepG, unwind, doReturn, Frame.at, baseD, hd, hf, h1, h2, rootF, seen_none, GStep.after, goexitEntry]
  · simp [G, stepG, unwind, rootF, Frame.catches, goexitEntry]
    rfl
theorem kid_ok [Inhabited Unit] {f : FuncId} {fn : Func} {code : Code} {k : Nat} [hb : TBody P f fn code k] {Lk : WgLink} (HL : WgLib P Lk) (hr : fn.results = #[]) (hname : (fn.name == "runtime.NumGoroutine") = false) {q : Cs} {cap : List Value} (hty : q.ty = Lk.tWg)
    (hC : ∃ (C : Nat) (cs : Array Value) (T : TypeId) (fz : Nat × Nat) (v : Value), q.base C = some (.cells cs T fz) ∧ cs[0]? = some v) (hl : Nat.ble cap.length k = true)
    (h : Ex P ⟨k, []⟩ (setS W0 (.snd q)) (bodyPostD [dcall Lk.done #[.pointer (some ⟨q.wg, 0, none⟩)]] fun w => ∃ q1 : Cs, w.s = .snd q1 ∧ q1.closed = true ∧ q1.ty = q.ty ∧ q1.wg = q.wg ∧ q1.base = q.base) (parF 0 cap) Heap.empty [] code []) :
    KidOk P W0 { target := .fn (.func f) cap.toArray, args := #[] } q := by
  intro Wr ho ht hpost
  refine .ctl rfl (fun main w => stepG_born hb.get hname hb.body) ?_
  have e := hp_worldOf (m := Heap.empty) (N := 0) (W := Wr.toWorld) (fun _ _ => rfl)
  obtain ⟨w0, hw0⟩ : ∃ w0 : GW, w0 = ⟨⟨worldOf Heap.empty 0 Wr.toWorld, Wr.post⟩, .snd q⟩ := ⟨_, rfl⟩
  have hm : hp w0.toWorld = Heap.empty := by rw [hw0]; exact e
  have hs0 : w0.s = .snd q := by rw [hw0]
  have hsm : Sm Wr w0 := by rw [hw0]; exact ⟨rfl, rfl, rfl⟩
  have hS : StG (setS W0 (.snd q)) Heap.empty w0 [] := by
    refine ⟨⟨⟨?_, ?_, rfl, ?_⟩, fun _ _ h => (by cases h), Heap.empty, trivial, fun _ _ h => (by cases h), fun _ => .inl rfl⟩, hs0, ?_, ?_⟩
    · rw [hw0]; exact ho
    · rw [hw0]; exact ht
    · rw [hw0]; exact low_hide
    · rw [hw0]; exact hpost
    · rw [hm]; exact fun _ => .inl rfl
  have leave : ∀ (a : Act) (todo : List Item) (w1 : GW), Sm Wr w1 → a.defers = [dcall Lk.done #[.pointer (some ⟨q.wg, 0, none⟩)]] → (∃ q1 : Cs, w1.s = .snd q1 ∧ q1.closed = true ∧ q1.ty = q.ty ∧ q1.wg = q.wg ∧ q1.base = q.base) →
      MI P kd Wr.toWorld (SB P Wr) (G { (baseD f).at a todo with mode := .returning } [rootF P]) (xw w1) := by
    rintro a todo w1 hsm1 hd ⟨q1, e1, e2, e3, e4, e5⟩
    refine .ctl rfl (fun main w => stepG_unwind_enter hd HL.f_done (Go.ConcR.Gen.nm_done Lk) rfl) ?_
    refine MI.special (sb_mono P Wr) ?_
    unfold xw
    rw [e1]
    refine SP.quit rfl e2 ⟨?_, fun w h1 h2 => ⟨23, ?_⟩⟩
    · obtain ⟨C, cs, T, fz, v, c1, c2⟩ := hC
      refine ⟨C, cs, T, fz, v, by rw [e5]; exact c1, c2, fun w h1 h2 => ⟨23, ?_⟩⟩
      rw [e3, hty, e4] at h1 ⊢
      exact Gen.doneN (n := 0) (k := 1) (val := v) HL rfl (quits_kid hb.get hr rfl) w ⟨h1, h2⟩
    · rw [e3, hty, e4] at h1 ⊢
      rw [e4] at h2
      exact Gen.doneN (n := 0) (k := 2) (val := .int .u32 0) HL rfl (quits_kid hb.get hr rfl) w ⟨h1, h2⟩
  have hx : (⟨Heap.empty, .snd q⟩ : XW Gh) = xw w0 := by unfold xw; rw [hm, hs0]
  rw [hx]
  refine h.run _ w0 (frOk_par hb.ntmps hl) hS Wr hsm (baseD f) [] [rootF P] (by simp [baseD]) fun e a' x' qq => ?_
  obtain ⟨w1, hrep, he, hd, hw1⟩ := qq
  rw [hrep.eq]
  rcases he with rfl | rfl
  · exact .ctl rfl (fun _ _ => stepG_end) (leave a' [] w1 hrep.sm hd hw1)
  · exact fun todo => leave a' todo w1 hrep.sm hd hw1
end
end Go.X
namespace Go.X
open Go Go.Sx Go.Conc Go.ConcN
section
variable {P : Program} {n : NF} {F : Slots} {H : Heap} {L : List HProp} {dst : Option Tmp} {ty : TypeId} {pos : String} {aft : Array Edge} {g : Option (Nat × Bool)} {x y : Operand} {a b : Int} {T T' : TypeId}
theorem op_shl32 (hx : opv F x = some (.int .u64 a)) (hy : opv F y = some (.int .u64 32)) : OpP P n ⟨dst, .binOp .shl T x y T', ty, pos, aft, g⟩ F H L (.int .u64 (IntKind.u64.wrap (a * 4294967296))) :=
  .mk fun _ w hF _ => by simp only [execOp, hF.opv hx, hF.opv hy]; simp [go_sem, Op.shift, IntKind.bits]
theorem op_shr32 (hx : opv F x = some (.int .u64 a)) (hy : opv F y = some (.int .u64 32)) : OpP P n ⟨dst, .binOp .shr T x y T', ty, pos, aft, g⟩ F H L (.int .u64 (a.fdiv 4294967296)) :=
  .mk fun _ w hF _ => by simp only [execOp, hF.opv hx, hF.opv hy]; simp [go_sem, Op.shift, IntKind.bits]
theorem op_and64 (hx : opv F x = some (.int .u64 a)) (hy : opv F y = some (.int .u64 b)) : OpP P n ⟨dst, .binOp .and T x y T', ty, pos, aft, g⟩ F H L (.int .u64 (bits .and .u64 a b)) :=
  .mk fun _ w hF _ => by simp only [execOp, hF.opv hx, hF.opv hy]; simp [go_sem]
instance : POp P (.binOp .shl T x y T') [.int .u64 a, .int .u64 32] True (.int .u64 (IntKind.u64.wrap (a * 4294967296))) := ⟨fun _ h => op_shl32 (opvs2 h).1 (opvs2 h).2⟩
instance : POp P (.binOp .shr T x y T') [.int .u64 a, .int .u64 32] True (.int .u64 (a.fdiv 4294967296)) := ⟨fun _ h => op_shr32 (opvs2 h).1 (opvs2 h).2⟩
instance : POp P (.binOp .and T x y T') [.int .u64 a, .int .u64 b] True (.int .u64 (bits .and .u64 a b)) := ⟨fun _ h => op_and64 (opvs2 h).1 (opvs2 h).2⟩
end
theorem st_V {v : Nat} (h : v < 2147483648) : IntKind.i32.wrap (Int.fdiv ((v : Int) * Go.ConcR.KK) 4294967296) = v := by
  have e : Int.fdiv ((v : Int) * Go.ConcR.KK) 4294967296 = v := by
    rw [Int.fdiv_eq_ediv_of_nonneg _ (by decide)]; simp only [Go.ConcR.KK]; omega
  rw [e, IntKind.wrap_i32]; omega
theorem st_bub {v : Nat} (h : v < 2147483648) : bits .and .u64 ((v : Int) * Go.ConcR.KK) 2147483648 = 0 := by
  have := Go.ConcN.st_flag v 0 h (by decide); simpa [Go.ConcR.KK] using this
theorem st_wait {v : Nat} (h : v < 2147483648) : bits .and .u64 ((v : Int) * Go.ConcR.KK) 2147483647 = 0 := by
  have := Go.ConcN.st_waiters v 0 h (by decide); simpa [Go.ConcR.KK] using this
class TUP (P : Program) (s d : TypeId) : Prop where
  ex : ∃ t, P.underlying s = some (.pointer t) ∧ P.underlying d = some .unsafePointer ∧ (P.info? t).map (fun i => decide (i.size = 0)) = some false
section
variable {q : Bool} {P : Program} {n : NF} {W0 : GW} {Q : Exit → Act → GW → Prop} {F : Slots} {H : Heap} {L : List HProp} {ops : Array Oper} {rest : List Oper} {k : List Fr} {ty : TypeId} {pos : String} {aft : Array Edge} {d : Tmp}
theorem ops_up {c : Co} {T T' : TypeId} {x : Operand} {off : Nat} [h : TUP P T T'] (hs : W0.s = .co c) (hx : opv F x = some (.pointer (some ⟨c.wg, off, none⟩))) (ho : off < 2) (hk : Ops P n W0 Q ((d, .pointer (some ⟨c.wg, off, none⟩)) :: F) H L q ops rest k) (hd : Nat.blt d n = true := by rfl) :
    Ops P n W0 Q F H L q ops (⟨some d, .convert T T' x, ty, pos, aft, none⟩ :: rest) k := ⟨sx_pk hd (fun a w hF hS Wr hsm w1 he hl hp hg => by
  obtain ⟨t, h1, h2, h3⟩ := h.ex
  obtain ⟨st, sm, hw⟩ := hg c (hS.sh.trans hs)
  have hc : ∃ v, w1.cell? ⟨c.wg, off, none⟩ = some v := by
    have : off = 0 ∨ off = 1 := by omega
    rcases this with rfl | rfl
    · exact ⟨_, wg_st hw⟩
    · exact ⟨_, wg_sm hw⟩
  obtain ⟨v, hc⟩ := hc
  have e1 := Go.run_convert_to_unsafe (P := P) h1 h2 h3 hc
  have e2 := Go.Conc.events_convert_to_unsafe (P := P) h1 h2 h3 hc #[]
  refine ⟨by simp [execOp, hF.opv hx, e1], fun e he' => ?_⟩
  have hev : (execOp a.eval ⟨some d, .convert T T' x, ty, pos, aft, none⟩).events P w1 #[] = #[] := by simp [execOp, hF.opv hx, e2]
  rw [hev] at he'
  simp at he') hk.run⟩
end
end Go.X
