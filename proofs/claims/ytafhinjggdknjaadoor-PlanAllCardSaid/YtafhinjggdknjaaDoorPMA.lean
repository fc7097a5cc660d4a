/- The seat's sync.WaitGroup, and its entries without a body. -/
import Derived.Test.YtafhinjggdknjaaDoorPInst
import Derived.Test.YtafhinjggdknjaaDoorPZC
import Derived.Conc.WgGenN2
import Derived.Conc.AppendEvents3
import Derived.Conc.Token
import Derived.Conc.WgArith
import Derived.Conc.SmallLaws
import Derived.Laws.LoneSync
set_option linter.unusedVariables false
set_option linter.unusedSimpArgs false
namespace Go.X
open Go Go.Sx Go.Conc Go.ConcN
open Go.ConcR (KK wgBlock WgAt stA smA rd wr mk)
theorem seen_sync {P : Program} {fn : FuncId} {es : Array Event} (h : ∀ e ∈ es, e.sync = true ∧ ∀ f, e.loc ≠ .mark (.extern f)) : seen P fn es = es := by
  rw [seen_def, seen_fold_sync _ es.toList _ #[] fun e he => h e (Array.mem_toList_iff.1 he)]
  simp
theorem close_sync (c : Nat) : ∀ e ∈ (#[⟨.obj c, false, true⟩, ⟨.obj c, true, true⟩] : Array Event), e.sync = true ∧ ∀ f, e.loc ≠ .mark (.extern f) := by
  intro e he
  simp only [List.mem_toArray, List.mem_cons, List.not_mem_nil, or_false] at he
  rcases he with rfl | rfl <;> simp
section
variable {P : Program} {main : Bool} {b : Frame} {a : Act} {kk : List Item} {cs : List Frame} {w : World} {opsA : Array Oper} {i : Nat} {restN : List Nat} {o : Oper}
theorem stepG_close_sync {x : Operand} {ats : Array TypeId} (ho : opsA[i]? = some o) (hw : Region.wanted o (yielded opsA a.tmps) = true) (hk : b.kind ≠ .early) (hop : o.op = .call { callee := .builtin .close, args := #[x], argTypes := ats })
    {c cap s r : Nat} {buf : Array Value} {tm : Bool} (hx : a.eval x = .chan (some c)) (hc : w.heap[c]? = some (.chan cap buf false s r tm)) :
    stepG P main (G (b.at a (.inRegion opsA (i :: restN) :: kk)) cs) w = .go (G (b.at (a.put o.dst (.tuple #[])) (.inRegion opsA restN :: kk)) cs) (w.setChan c cap buf true s r tm) #[⟨.obj c, false, true⟩, ⟨.obj c, true, true⟩] := by
  simp only [Act.eval, Array.getD_eq_getD_getElem?] at hx
  have hr : (execOp a.eval o).run P w = .ok (.value (.tuple #[])) (w.setChan c cap buf true s r tm) := by
    unfold execOp
    simp only [hop]
    simp [go_sem, hx, run_close_open _ _ hc, World.setChan]
  have he : (execOp a.eval o).events P w #[] = #[⟨.obj c, false, true⟩, ⟨.obj c, true, true⟩] := by
    unfold execOp
    simp only [hop]
    simp [go_sem, hx, events_close_open _ _ hc]
  rw [stepG_value ho hw hk hr]
  unfold listed
  rw [he, seen_sync (close_sync c)]
end
section
variable {q : Bool} {P : Program} {n : NF} {W0 : GW} {Q : Exit → Act → GW → Prop} {F : Slots} {H : Heap} {L : List HProp} {ops : Array Oper} {rest : List Oper} {k : List Fr} {op : Op} {ty : TypeId} {pos : String} {aft : Array Edge} {d : Tmp} {dst : Option Tmp} {g : Option (Nat × Bool)} {K : Value → GW → Heap → List HProp → Prop}
theorem ops_defer {f : FuncId} {ags : Array Operand} {at_ : Array TypeId} {vs : List Value} (hv : opvs F ags.toList = some vs) (hk : Ops P ⟨n.n, dcall f vs.toArray :: n.D⟩ W0 Q F H L false ops rest k) :
    Ops P n W0 Q F H L false ops (⟨none, .defer ⟨.value (.func f), ags, at_⟩, ty, pos, aft, none⟩ :: rest) k := ⟨by
  intro a w hF hS
  unfold wpListV
  rw [if_pos (by simp [Region.wanted])]
  intro Wr hsm ops' j rest' b kk cs ho hw hb hc
  have hm : ags.map a.eval = vs.toArray := by
    have := (opvs_args hv).eval hF
    rw [← this, ← Array.toList_map, Array.toArray_toList]
  refine .ctl rfl (fun main w1 => stepG_defer ho hw hb rfl) (hc _ _ ⟨w, rep_xw hsm, hk.run _ w ?_ hS⟩)
  rw [hm]
  exact ⟨hF.size, by show dcall f vs.toArray :: a.defers = _; rw [hF.defs], hF.get⟩⟩
def bodyPostD (D : List Deferred) (R : GW → Prop) (e : Exit) (a : Act) (w : GW) : Prop := (e = .normal ∨ e = .ret) ∧ a.defers = D ∧ R w
theorem outD {D : List Deferred} {R : GW → Prop} {e : Exit} (he : e = .normal ∨ e = .ret) (hD : n.D = D) (h : ∀ w, StG W0 H w L → R w) : Out P n W0 (bodyPostD D R) F H L e [] :=
  ⟨fun a w hF hS => ⟨he, hF.defs.trans hD, h w hS⟩⟩
theorem results_nil {fn : Func} (h : fn.results = #[]) (tmps : Array Value) (w : World) : (results fn tmps).run P w = .ok (.tuple #[]) w := results_none h tmps P w
theorem leave_nil {Wr : BW} {w : GW} {f : FuncId} {fn : Func} {a : Act} {todo : List Item} {c' : Frame} {cs : List Frame} {m : Heap} {s : Gh} (hf : P.funcs[f]? = some fn) (hr : fn.results = #[]) (hd : a.defers = [])
    (h : MI P kd Wr.toWorld (SB P Wr) (G (c'.finish (.tuple #[])) cs) ⟨m, s⟩) : MI P kd Wr.toWorld (SB P Wr) (G { (base f).at a todo with mode := .returning } (c' :: cs)) ⟨m, s⟩ := by
  refine .own ⟨rfl, fun w1 he hl _ => ⟨_, w1, _, m, stepG_leaveE (b := base f) rfl hd hf (results_nil hr _ _), ?_, hl, fun _ hb => .inl hb, h⟩⟩
  have : (results fn a.tmps).events P w1 #[] = #[] := events_results_none hr _ _
  rw [this]
  exact ⟨fun _ _ _ => rfl, Nat.le_refl _, rfl, rfl, rfl, fun e he => absurd (mem_seen he) (by simp), fun e he => absurd (mem_seen he) (by simp)⟩
theorem CtG.goMark {kx : Nat} {f fe : FuncId} {fn : Func} {code : Code} {vs : List Value} {A : List HProp} {Post : Value → GW → Heap → List HProp → Prop} {μ : Mark} [hb : TBody P f fn code kx] [ht : TMark P fe μ] (hr : fn.results = #[])
    (h : ∀ R, Ex P ⟨kx, []⟩ W0 (bodyPostD [dcall fe #[]] fun w => ∃ W1 c st H' B, W1.s = .co c ∧ Marks c μ st ∧ Post (.tuple #[]) (setS W1 (.co { c with st := st })) H' B ∧ StG W1 H' w (B ++ R)) (parF 0 vs) H (A ++ R) code [])
    (hl : Nat.ble vs.length kx = true := by rfl) : CtG P f vs.toArray W0 H A Post := by
  intro w R hS Wr hsm c' cs hR
  rw [enter_at vs.toArray hb.get hb.body]
  obtain ⟨fx, hx, hfx, hne⟩ := ht.ex
  have leave : ∀ (a : Act) (todo : List Item) (w1 : GW), Sm Wr w1 → a.defers = [dcall fe #[]] → (∃ W1 c st H' B, W1.s = .co c ∧ Marks c μ st ∧ Post (.tuple #[]) (setS W1 (.co { c with st := st })) H' B ∧ StG W1 H' w1 (B ++ R)) →
      MI P kd Wr.toWorld (SB P Wr) (G { (base f).at a todo with mode := .returning } (c' :: cs)) (xw w1) := by
    rintro a todo w1 hsm1 hd ⟨W1, c, st, H', B, e1, e2, e3, e4⟩
    have hws : w1.s = .co c := e4.sh.trans e1
    refine MI.special (sb_mono P Wr) ?_
    unfold xw
    rw [hws]
    refine SP.mark e2 rfl (fun w2 _ _ _ => stepG_unwind_entry (v := .tuple #[]) (evs := #[⟨.mark μ, false, true⟩]) hd hx.get hx.name hx.body hx.next hfx (by simp [Extern.Race.none_]) (by simp) (by
      intro x hx'
      simp at hx'
      subst hx'
      exact ⟨rfl, fun g h => hne g (Loc.mark.inj h)⟩)) ?_
    obtain ⟨w', q1, q2⟩ := stG_make e4 hsm1 (m := hp w1.toWorld) (.co { c with st := st }) (bnd_hp _) (by rw [show pool (.co { c with st := st }) = pool (.co c) from rfl, ← e1]; exact e4.ro) e4.own (by rw [show pool (.co { c with st := st }) = pool (.co c) from rfl, ← e1]; exact e4.dj)
    exact leave_nil (w := w') hb.get hr rfl (hR _ _ ⟨w', q1, _, _, _, _, rfl, e3, q2⟩)
  refine (h R).run _ w (frOk_par hb.ntmps hl) hS Wr hsm (base f) [] (c' :: cs) (by simp [base]) fun e a' x' q => ?_
  obtain ⟨w1, hrep, he, hd, hw1⟩ := q
  rw [hrep.eq]
  rcases he with rfl | rfl
  · exact .ctl rfl (fun _ _ => stepG_end) (leave a' [] w1 hrep.sm hd hw1)
  · exact fun todo => leave a' todo w1 hrep.sm hd hw1
end
end Go.X
namespace Go.X
open Go Go.Sx Go.Conc Go.ConcN
open Go.ConcR (KK wgBlock WgAt stA smA rd wr mk)
section
variable {q : Bool} {P : Program} {n : NF} {W0 : GW} {Q : Exit → Act → GW → Prop} {F : Slots} {H : Heap} {L : List HProp} {ops : Array Oper} {rest : List Oper} {k : List Fr} {op : Op} {ty : TypeId} {pos : String} {aft : Array Edge} {d : Tmp} {dst : Option Tmp} {g : Option (Nat × Bool)} {K : Value → GW → Heap → List HProp → Prop}
theorem opG_clos {c : Co} {x : Operand} {at_ : Array TypeId} (hs : W0.s = .co c) (hst : c.st = .run) (hsh : c.shut = false) (hid : ∀ (k : Nat) o, c.wk[k]? = some o → o = none) (hx : opv F x = some (.chan (some c.cy.dl)))
    (hk : K (.tuple #[]) (setS W0 (.co { c with shut := true })) H L) : OpG P n W0 ⟨dst, .call ⟨.builtin .close, #[x], at_⟩, ty, pos, aft, g⟩ F H L K := by
  intro a w next Q hF hS hn Wr hsm ops j rest b kk cs ho hw hb hc
  have hws : w.s = .co c := hS.sh.trans hs
  refine MI.special (sb_mono P Wr) ?_
  unfold xw
  rw [hws]
  refine SP.clos hst hsh hid rfl ?_ (fun w1 s r _ _ _ hch => stepG_close_sync ho hw hb rfl (hF.opv hx) hch) ?_
  · simp [mayWake, G, Frame.at, ho]
  · exact hc _ _ (hat_turn hS hsm hs rfl fun w' h => hn _ _ _ _ _ hk h)
theorem sx_pk {v : Value} {rest : List Oper} (hd : Nat.blt d n = true) (h : ∀ a w, FrOk n a F → StG W0 H w L → (⟨some d, op, ty, pos, aft, none⟩ : Oper).pkV P a.eval w v) (hk : SL q P n W0 ((d, v) :: F) H L ops Q rest) :
    SL q P n W0 F H L ops Q (⟨some d, op, ty, pos, aft, none⟩ :: rest) := by
  cases q with
  | false =>
    intro a w hF hS
    unfold wpListV
    rw [if_pos (by simp [Region.wanted])]
    exact wpV_of_pk (h a w hF hS) (hk _ _ (hF.put hd v) hS)
  | true => exact ⟨d, v, rfl, hd, .inl fun a w hF hS => ⟨by simp [Region.wanted], .inr (h a w hF hS)⟩, hk⟩
end
end Go.X
namespace Go.X
open Go Go.Sx Go.Conc Go.ConcN Go.Conc.Lib
open Go.ConcR (KK wgBlock WgAt stA smA rd wr mk)
def rootF (P : Program) : Frame := { (default : Frame) with fn := P.funcs.size, defers := [], mode := .panicking [goexitEntry] }
section
variable {P : Program} {W0 : GW}
theorem stepG_born {main : Bool} {f : FuncId} {fn : Func} {c : Code} {cap : Array Value} {w : World} (hf : P.funcs[f]? = some fn) (hname : (fn.name == "runtime.NumGoroutine") = false) (hb : fn.body = some c) :
    stepG P main (born P { target := .fn (.func f) cap, args := #[] }) w = .go (G ((baseD f).at { tmps := cap ++ Array.replicate (fn.ntmps - cap.size) undef, defers := [] } [.code c]) [rootF P]) w #[] := by
  have h1 : ¬ fn.name = "runtime.NumGoroutine" := by simpa using hname
  rw [← enter_atD cap hf hb]
  simp [G, stepG, born, rootF, unwind, callDeferred, invoke, callFunc, hf, h1, hb, GStep.after, seen_none]
theorem quits_kid {f : FuncId} {fn : Func} {a : Act} {todo : List Item} (hf : P.funcs[f]? = some fn) (hr : fn.results = #[]) (hd : a.defers = []) : QuitsD P 2 0 (G { (baseD f).at a todo with mode := .returning } [rootF P]) := by
  refine .ctl (g' := G (rootF P) []) rfl (fun w => ?_) (.ctl (g' := { frame := rootF P, callers := [], status := .finished, dying := none }) rfl (fun w => ?_) ⟨rfl, rfl⟩)
  · have h1 : (results fn a.tmps).run P w = .ok (.tuple #[]) w := results_none hr _ P w
    have h2 : (results fn a.tmps).events P w #[] = #[] := events_results_none hr _ _
    have h3 : ((baseD f).at a todo).fn = f := rfl
    simp [G, stepG, unwind, doReturn, Frame.at, baseD, hd, hf, h1, h2, rootF, seen_none, GStep.after, goexitEntry]
  · simp [G, stepG, unwind, rootF, Frame.catches, goexitEntry]
    rfl
theorem kid_ok [Inhabited Unit] {f : FuncId} {fn : Func} {code : Code} {k : Nat} [hb : TBody P f fn code k] {Lk : WgLink} (HL : WgLib P Lk) (hr : fn.results = #[]) (hname : (fn.name == "runtime.NumGoroutine") = false) {q : Cs} {cap : List Value} (hty : q.cy.ty = Lk.tWg)
    (hC : ∃ (C : Nat) (cs : Array Value) (T : TypeId) (fz : Nat × Nat) (v : Value), q.cy.base C = some (.cells cs T fz) ∧ cs[0]? = some v) (hl : Nat.ble cap.length k = true)
    (h : Ex P ⟨k, []⟩ (setS W0 (.snd q)) (bodyPostD [dcall Lk.done #[.pointer (some ⟨q.cy.wg, 0, none⟩)]] fun w => ∃ q1 : Cs, w.s = .snd q1 ∧ q1.off = true ∧ q1.job = none ∧ q1.cy = q.cy) (parF 0 cap) (fz q.cy.base) [] code []) :
    KidOk P W0 { target := .fn (.func f) cap.toArray, args := #[] } q := by
  intro Wr ho ht hpost
  refine .ctl rfl (fun main w => stepG_born hb.get hname hb.body) ?_
  have e := hp_worldOf (m := Heap.empty) (N := 0) (W := Wr.toWorld) (fun _ _ => rfl)
  obtain ⟨w0, hw0⟩ : ∃ w0 : GW, w0 = ⟨⟨worldOf Heap.empty 0 Wr.toWorld, Wr.post⟩, .snd q⟩ := ⟨_, rfl⟩
  have hm : hp w0.toWorld = Heap.empty := by rw [hw0]; exact e
  have hs0 : w0.s = .snd q := by rw [hw0]
  have hsm : Sm Wr w0 := by rw [hw0]; exact ⟨rfl, rfl, rfl⟩
  have hS : StG (setS W0 (.snd q)) (fz q.cy.base) w0 [] := by
    refine ⟨⟨?_, ?_, rfl, ?_⟩, fun b o h => ?_, ⟨Heap.empty, trivial, fun _ _ h => (by cases h), fun _ => .inr rfl⟩, hs0, ?_, ?_⟩
    · rw [hw0]; exact ho
    · rw [hw0]; exact ht
    · rw [hw0]; exact low_hide
    · show union (hp w0.toWorld) (fz q.cy.base) b = some o
      rw [hm]; exact h
    · rw [hw0]; exact hpost
    · rw [hm]; exact fun _ => .inl rfl
  have leave : ∀ (a : Act) (todo : List Item) (w1 : GW), Sm Wr w1 → a.defers = [dcall Lk.done #[.pointer (some ⟨q.cy.wg, 0, none⟩)]] → (∃ q1 : Cs, w1.s = .snd q1 ∧ q1.off = true ∧ q1.job = none ∧ q1.cy = q.cy) →
      MI P kd Wr.toWorld (SB P Wr) (G { (baseD f).at a todo with mode := .returning } [rootF P]) (xw w1) := by
    rintro a todo w1 hsm1 hd ⟨q1, e1, e2, e3, e4⟩
    refine .ctl rfl (fun main w => stepG_unwind_enter hd HL.f_done (Go.ConcR.Gen.nm_done Lk) rfl) ?_
    refine MI.special (sb_mono P Wr) ?_
    unfold xw
    rw [e1]
    refine SP.quit rfl e2 e3 ⟨?_, fun w h1 h2 => ⟨23, ?_⟩⟩
    · obtain ⟨C, cs, T, fz, v, c1, c2⟩ := hC
      refine ⟨C, cs, T, fz, v, by rw [e4]; exact c1, c2, fun w h1 h2 => ⟨23, ?_⟩⟩
      rw [e4, hty] at h1 ⊢
      exact Gen.doneN (n := 0) (k := 1) (val := v) HL rfl (quits_kid hb.get hr rfl) w ⟨h1, h2⟩
    · rw [e4, hty] at h1 ⊢
      rw [e4] at h2
      exact Gen.doneN (n := 0) (k := 2) (val := .int .u32 0) HL rfl (quits_kid hb.get hr rfl) w ⟨h1, h2⟩
  have hx : (⟨Heap.empty, .snd q⟩ : XW Gh) = xw w0 := by unfold xw; rw [hm, hs0]
  rw [hx]
  refine h.run _ w0 (frOk_par hb.ntmps hl) hS Wr hsm (baseD f) [] [rootF P] (by simp [baseD]) fun e a' x' qq => ?_
  obtain ⟨w1, hrep, he, hd, hw1⟩ := qq
  rw [hrep.eq]
  rcases he with rfl | rfl
  · exact .ctl rfl (fun _ _ => stepG_end) (leave a' [] w1 hrep.sm hd hw1)
  · exact fun todo => leave a' todo w1 hrep.sm hd hw1
end
end Go.X
namespace Go.Proofs.YtafhinjggdknjaaDoor
open Go Go.Sx Go.Proofs
structure Map where
  W : Int
  H : Int
  Shards : Int
  Blocked : (List Int)
  deriving DecidableEq
abbrev Map.cv (x : Map) (s1 : Go.Value) : List Go.Value := [.int .i64 x.W, .int .i64 x.H, .int .i64 x.Shards, s1]
def rMap : Rd Map := fun H c x => ∃ s1, c = x.cv s1 ∧ fits x.W ∧ fits x.H ∧ fits x.Shards ∧ SlB rInt 1 8 H s1 x.Blocked
instance : RdOk rMap 4 := ⟨fun ⟨s1, e, h0, h1, h2, h3⟩ => by subst e; rfl, fun ⟨s1, e, h0, h1, h2, h3⟩ => by subst e; simp only [List.all_cons, List.all_nil, slb_one h3]; rfl, fun hl ⟨s1, e, h0, h1, h2, h3⟩ => ⟨s1, e, h0, h1, h2, h3.mono hl⟩⟩
theorem rds_Map : Rds Tryd.prog 24 rMap := by
  intro H enc W fuel cs d ps h hw
  have hst := Tryd.underlying24
  obtain ⟨hlen, he⟩ := trod_fields hst h hw
  have hl : cs.length = 4 := hlen.trans (by kernel_rfl)
  obtain ⟨y0, hy0⟩ := he 0 _ rfl 0 1 ⟨rfl, by kernel_rfl⟩ (rds_int Tryd.underlying3)
  obtain ⟨y1, hy1⟩ := he 1 _ rfl 1 1 ⟨rfl, by kernel_rfl⟩ (rds_int Tryd.underlying3)
  obtain ⟨y2, hy2⟩ := he 2 _ rfl 2 1 ⟨rfl, by kernel_rfl⟩ (rds_int Tryd.underlying3)
  obtain ⟨y3, hy3⟩ := he 3 _ rfl 3 1 ⟨rfl, by kernel_rfl⟩ (rds_slice Tryd.underlying22 (by kernel_rfl) (by kernel_rfl) (by decide) (rds_int Tryd.underlying3))
  obtain ⟨e0, k0_0⟩ := hy0
  have t0 := cutd (o' := 1) e0 rfl
  obtain ⟨e1, k1_0⟩ := hy1
  have t1 := cutd (o' := 2) e1 rfl
  obtain ⟨e2, k2_0⟩ := hy2
  have t2 := cutd (o' := 3) e2 rfl
  obtain ⟨v3_0, e3, k3_0⟩ := hy3
  have t3 := cutd (o' := 4) e3 rfl
  refine ⟨⟨y0, y1, y2, y3⟩, ⟨v3_0, ?_, k0_0, k1_0, k2_0, k3_0⟩⟩
  refine t0.trans ?_
  rw [t1, t2, t3, List.drop_eq_nil_of_le (Nat.le_of_eq hl)]
  try rfl
structure Job where
  Cell : Int
  Tick : Int
  Goal : Int
  N : Int
  Taken : (List ByteArray)
  deriving DecidableEq
abbrev Job.cv (x : Job) (s1 : Go.Value) : List Go.Value := [.int .i64 x.Cell, .int .i64 x.Tick, .int .i64 x.Goal, .int .i64 x.N, s1]
def rJob : Rd Job := fun H c x => ∃ s1, c = x.cv s1 ∧ fits x.Cell ∧ fits x.Tick ∧ fits x.Goal ∧ fits x.N ∧ SlB rStr 1 16 H s1 x.Taken
instance : RdOk rJob 5 := ⟨fun ⟨s1, e, h0, h1, h2, h3, h4⟩ => by subst e; rfl, fun ⟨s1, e, h0, h1, h2, h3, h4⟩ => by subst e; simp only [List.all_cons, List.all_nil, slb_one h4]; rfl, fun hl ⟨s1, e, h0, h1, h2, h3, h4⟩ => ⟨s1, e, h0, h1, h2, h3, h4.mono hl⟩⟩
theorem rds_Job : Rds Tryd.prog 34 rJob := by
  intro H enc W fuel cs d ps h hw
  have hst := Tryd.underlying34
  obtain ⟨hlen, he⟩ := trod_fields hst h hw
  have hl : cs.length = 5 := hlen.trans (by kernel_rfl)
  obtain ⟨y0, hy0⟩ := he 0 _ rfl 0 1 ⟨rfl, by kernel_rfl⟩ (rds_int Tryd.underlying3)
  obtain ⟨y1, hy1⟩ := he 1 _ rfl 1 1 ⟨rfl, by kernel_rfl⟩ (rds_int Tryd.underlying3)
  obtain ⟨y2, hy2⟩ := he 2 _ rfl 2 1 ⟨rfl, by kernel_rfl⟩ (rds_int Tryd.underlying3)
  obtain ⟨y3, hy3⟩ := he 3 _ rfl 3 1 ⟨rfl, by kernel_rfl⟩ (rds_int Tryd.underlying3)
  obtain ⟨y4, hy4⟩ := he 4 _ rfl 4 1 ⟨rfl, by kernel_rfl⟩ (rds_slice Tryd.underlying32 (by kernel_rfl) (by kernel_rfl) (by decide) (rds_str Tryd.underlying9))
  obtain ⟨e0, k0_0⟩ := hy0
  have t0 := cutd (o' := 1) e0 rfl
  obtain ⟨e1, k1_0⟩ := hy1
  have t1 := cutd (o' := 2) e1 rfl
  obtain ⟨e2, k2_0⟩ := hy2
  have t2 := cutd (o' := 3) e2 rfl
  obtain ⟨e3, k3_0⟩ := hy3
  have t3 := cutd (o' := 4) e3 rfl
  obtain ⟨v4_0, e4, k4_0⟩ := hy4
  have t4 := cutd (o' := 5) e4 rfl
  refine ⟨⟨y0, y1, y2, y3, y4⟩, ⟨v4_0, ?_, k0_0, k1_0, k2_0, k3_0, k4_0⟩⟩
  refine t0.trans ?_
  rw [t1, t2, t3, t4, List.drop_eq_nil_of_le (Nat.le_of_eq hl)]
  try rfl
structure Route where
  Start : Int
  Cells : (List Int)
  deriving DecidableEq
abbrev Route.cv (x : Route) (s1 : Go.Value) : List Go.Value := [.int .i64 x.Start, s1]
def rRoute : Rd Route := fun H c x => ∃ s1, c = x.cv s1 ∧ fits x.Start ∧ SlB rInt 1 8 H s1 x.Cells
instance : RdOk rRoute 2 := ⟨fun ⟨s1, e, h0, h1⟩ => by subst e; rfl, fun ⟨s1, e, h0, h1⟩ => by subst e; simp only [List.all_cons, List.all_nil, slb_one h1]; rfl, fun hl ⟨s1, e, h0, h1⟩ => ⟨s1, e, h0, h1.mono hl⟩⟩
def zRoute : Route := ⟨0, []⟩
theorem zRoute_reads {H : Heap} : rRoute H [.int .i64 0, .slice none 0 0] zRoute := ⟨nilS, rfl, fits0, SlB.nil⟩
structure Found where
  ix : Int
  route : Route
  code : Int
  deriving DecidableEq
abbrev Found.cv (x : Found) (s1 : Go.Value) : List Go.Value := [.int .i64 x.ix, .int .i64 x.route.Start, s1, .int .i64 x.code]
structure Rest where
  ok : Bool
  comes : Int
  far : Int
  passes : Int
  next : Int
  deriving DecidableEq
abbrev Rest.cv (x : Rest) : List Go.Value := [.bool x.ok, .int .i64 x.comes, .int .i64 x.far, .int .i64 x.passes, .int .i64 x.next]
end Go.Proofs.YtafhinjggdknjaaDoor
namespace Go.X
open Go Go.Sx Go.Conc Go.ConcN
section
variable {P : Program} {n : NF} {F : Slots} {H : Heap} {L : List HProp} {dst : Option Tmp} {ty : TypeId} {pos : String} {aft : Array Edge} {g : Option (Nat × Bool)} {x y : Operand} {a b : Int} {T T' : TypeId}
theorem op_shl32 (hx : opv F x = some (.int .u64 a)) (hy : opv F y = some (.int .u64 32)) : OpP P n ⟨dst, .binOp .shl T x y T', ty, pos, aft, g⟩ F H L (.int .u64 (IntKind.u64.wrap (a * 4294967296))) :=
  .mk fun _ w hF _ => by simp only [execOp, hF.opv hx, hF.opv hy]; simp [go_sem, Op.shift, IntKind.bits]
theorem op_shr32 (hx : opv F x = some (.int .u64 a)) (hy : opv F y = some (.int .u64 32)) : OpP P n ⟨dst, .binOp .shr T x y T', ty, pos, aft, g⟩ F H L (.int .u64 (a.fdiv 4294967296)) :=
  .mk fun _ w hF _ => by simp only [execOp, hF.opv hx, hF.opv hy]; simp [go_sem, Op.shift, IntKind.bits]
theorem op_and64 (hx : opv F x = some (.int .u64 a)) (hy : opv F y = some (.int .u64 b)) : OpP P n ⟨dst, .binOp .and T x y T', ty, pos, aft, g⟩ F H L (.int .u64 (bits .and .u64 a b)) :=
  .mk fun _ w hF _ => by simp only [execOp, hF.opv hx, hF.opv hy]; simp [go_sem]
instance : POp P (.binOp .shl T x y T') [.int .u64 a, .int .u64 32] True (.int .u64 (IntKind.u64.wrap (a * 4294967296))) := ⟨fun _ h => op_shl32 (opvs2 h).1 (opvs2 h).2⟩
instance : POp P (.binOp .shr T x y T') [.int .u64 a, .int .u64 32] True (.int .u64 (a.fdiv 4294967296)) := ⟨fun _ h => op_shr32 (opvs2 h).1 (opvs2 h).2⟩
instance : POp P (.binOp .and T x y T') [.int .u64 a, .int .u64 b] True (.int .u64 (bits .and .u64 a b)) := ⟨fun _ h => op_and64 (opvs2 h).1 (opvs2 h).2⟩
end
theorem st_V {v : Nat} (h : v < 2147483648) : IntKind.i32.wrap (Int.fdiv ((v : Int) * Go.ConcR.KK) 4294967296) = v := by
  have e : Int.fdiv ((v : Int) * Go.ConcR.KK) 4294967296 = v := by
    rw [Int.fdiv_eq_ediv_of_nonneg _ (by decide)]; simp only [Go.ConcR.KK]; omega
  rw [e, IntKind.wrap_i32]; omega
theorem st_bub {v : Nat} (h : v < 2147483648) : bits .and .u64 ((v : Int) * Go.ConcR.KK) 2147483648 = 0 := by
  have := Go.ConcN.st_flag v 0 h (by decide); simpa [Go.ConcR.KK] using this
theorem st_wait {v : Nat} (h : v < 2147483648) : bits .and .u64 ((v : Int) * Go.ConcR.KK) 2147483647 = 0 := by
  have := Go.ConcN.st_waiters v 0 h (by decide); simpa [Go.ConcR.KK] using this
class TUP (P : Program) (s d : TypeId) : Prop where
  ex : ∃ t, P.underlying s = some (.pointer t) ∧ P.underlying d = some .unsafePointer ∧ (P.info? t).map (fun i => decide (i.size = 0)) = some false
section
variable {q : Bool} {P : Program} {n : NF} {W0 : GW} {Q : Exit → Act → GW → Prop} {F : Slots} {H : Heap} {L : List HProp} {ops : Array Oper} {rest : List Oper} {k : List Fr} {ty : TypeId} {pos : String} {aft : Array Edge} {d : Tmp}
theorem ops_up {c : Co} {T T' : TypeId} {x : Operand} {off : Nat} [h : TUP P T T'] (hs : W0.s = .co c) (hx : opv F x = some (.pointer (some ⟨c.cy.wg, off, none⟩))) (ho : off < 2) (hk : Ops P n W0 Q ((d, .pointer (some ⟨c.cy.wg, off, none⟩)) :: F) H L q ops rest k) (hd : Nat.blt d n = true := by rfl) :
    Ops P n W0 Q F H L q ops (⟨some d, .convert T T' x, ty, pos, aft, none⟩ :: rest) k := ⟨sx_pk hd (fun a w hF hS Wr hsm w1 he hl hp hg => by
  obtain ⟨t, h1, h2, h3⟩ := h.ex
  obtain ⟨st, sm, hw⟩ := hg c (hS.sh.trans hs)
  have hc : ∃ v, w1.cell? ⟨c.cy.wg, off, none⟩ = some v := by
    have : off = 0 ∨ off = 1 := by omega
    rcases this with rfl | rfl
    · exact ⟨_, wg_st hw⟩
    · exact ⟨_, wg_sm hw⟩
  obtain ⟨v, hc⟩ := hc
  have e1 := Go.run_convert_to_unsafe (P := P) h1 h2 h3 hc
  have e2 := Go.Conc.events_convert_to_unsafe (P := P) h1 h2 h3 hc #[]
  refine ⟨by simp [execOp, hF.opv hx, e1], fun e he' => ?_⟩
  have hev : (execOp a.eval ⟨some d, .convert T T' x, ty, pos, aft, none⟩).events P w1 #[] = #[] := by simp [execOp, hF.opv hx, e2]
  rw [hev] at he'
  simp at he') hk.run⟩
end
end Go.X
namespace Go.Proofs.YtafhinjggdknjaaDoor
open Go Go.Sx Go.X Go.Proofs Go.Conc Go.Conc.Lib Go.ConcR.Gen
abbrev link : WgLink := { add := 15, done := 17, wait := 18, relMerge := 29, disable := 30, enable := 31, inBubble := 32, associate := 33, fatal := 34, uOr := 35, uAdd := 36, raceRead := 37, uLoad := 38, uStore := 39, disassociate := 40, semrelease := 41, acquire := 42, isAssociated := 43, uCas := 44, raceWrite := 45, semacquire := 46, orU64 := 57, addU64 := 58, loadU64 := 59, storeU64 := 60, casU64 := 61, tWgP := 82, tUP := 84, tAssoc := 85, tWg := 64, tAU := 61, tU64 := 59, tUint := 89, tU32 := 62, tPU32 := 90, tPAU := 109, tPU64 := 111, tNoCopy := 56, tANoCopy := 57, tAlign64 := 58 }
theorem wgLib : WgLib Tryd.prog link :=
  ⟨Tryd.func15, Tryd.func17, Tryd.func18, Tryd.func29, Tryd.func30, Tryd.func31, Tryd.func32, Tryd.func33, Tryd.func34, Tryd.func35, Tryd.func36, Tryd.func37, Tryd.func38, Tryd.func39, Tryd.func40, Tryd.func41, Tryd.func42, Tryd.func43, Tryd.func44, Tryd.func45, Tryd.func46, Tryd.func57, Tryd.func58, Tryd.func59, Tryd.func60, Tryd.func61, Tryd.underlying82, Tryd.runUnderlying82, Tryd.sizeOf82, Tryd.isAgg82, Tryd.zeroValue82, Tryd.underlying84, Tryd.runUnderlying84, Tryd.sizeOf84, Tryd.isAgg84, Tryd.zeroValue84, Tryd.underlying85, Tryd.runUnderlying85, Tryd.sizeOf85, Tryd.isAgg85, Tryd.zeroValue85, Tryd.underlying64, Tryd.runUnderlying64, Tryd.sizeOf64, Tryd.isAgg64, Tryd.zeroValue64, Tryd.underlying61, Tryd.runUnderlying61, Tryd.sizeOf61, Tryd.isAgg61, Tryd.zeroValue61, Tryd.underlying59, Tryd.runUnderlying59, Tryd.sizeOf59, Tryd.isAgg59, Tryd.zeroValue59, Tryd.underlying89, Tryd.runUnderlying89, Tryd.sizeOf89, Tryd.isAgg89, Tryd.zeroValue89, Tryd.underlying62, Tryd.runUnderlying62, Tryd.sizeOf62, Tryd.isAgg62, Tryd.zeroValue62, Tryd.underlying90, Tryd.runUnderlying90, Tryd.sizeOf90, Tryd.isAgg90, Tryd.zeroValue90, Tryd.underlying109, Tryd.runUnderlying109, Tryd.sizeOf109, Tryd.isAgg109, Tryd.zeroValue109, Tryd.underlying111, Tryd.runUnderlying111, Tryd.sizeOf111, Tryd.isAgg111, Tryd.zeroValue111, Tryd.underlying0, Tryd.runUnderlying0, Tryd.sizeOf0, Tryd.isAgg0, Tryd.zeroValue0, Tryd.underlying3, Tryd.runUnderlying3, Tryd.sizeOf3, Tryd.isAgg3, Tryd.zeroValue3, Tryd.underlying4, Tryd.runUnderlying4, Tryd.sizeOf4, Tryd.isAgg4, Tryd.zeroValue4, Tryd.underlying9, Tryd.runUnderlying9, Tryd.sizeOf9, Tryd.isAgg9, Tryd.zeroValue9, Tryd.underlying20, Tryd.runUnderlying20, Tryd.sizeOf20, Tryd.isAgg20, Tryd.zeroValue20, Tryd.underlying21, Tryd.runUnderlying21, Tryd.sizeOf21, Tryd.isAgg21, Tryd.zeroValue21, (by kernel_rfl), (by kernel_rfl)⟩
instance : TMark Tryd.prog 30 .disable := ⟨_, ⟨wgLib.f_disable, x_disable_n link, x_disable_b link, x_disable_x link⟩, x_disable_f link, by simp⟩
instance : TMark Tryd.prog 31 .enable := ⟨_, ⟨wgLib.f_enable, x_enable_n link, x_enable_b link, x_enable_x link⟩, x_enable_f link, by simp⟩
instance : TMarkAt Tryd.prog 42 .acquire := ⟨_, ⟨wgLib.f_acquire, x_acquire_n link, x_acquire_b link, x_acquire_x link⟩, x_acquire_f link, by simp⟩
instance : TMarkAt Tryd.prog 37 .read := ⟨_, ⟨wgLib.f_raceRead, x_raceRead_n link, x_raceRead_b link, x_raceRead_x link⟩, x_raceRead_f link, by simp⟩
instance : TMarkAt Tryd.prog 45 .write := ⟨_, ⟨wgLib.f_raceWrite, x_raceWrite_n link, x_raceWrite_b link, x_raceWrite_x link⟩, x_raceWrite_f link, by simp⟩
instance : TConst Tryd.prog 32 (.bool false) := ⟨_, ⟨wgLib.f_inBubble, x_inBubble_n link, x_inBubble_b link, x_inBubble_x link⟩, x_inBubble_f link⟩
instance : TAtLoad Tryd.prog 59 := ⟨_, ⟨wgLib.f_loadU64, x_loadU64_n link, x_loadU64_b link, x_loadU64_x link⟩, x_loadU64_f link⟩
instance : TAtAdd Tryd.prog 58 := ⟨_, ⟨wgLib.f_addU64, x_addU64_n link, x_addU64_b link, x_addU64_x link⟩, x_addU64_f link⟩
instance : TAtCas Tryd.prog 61 := ⟨_, ⟨wgLib.f_casU64, x_casU64_n link, x_casU64_b link, x_casU64_x link⟩, x_casU64_f link⟩
instance : TSemA Tryd.prog 46 := ⟨_, ⟨wgLib.f_semacquire, x_semacquire_n link, x_semacquire_b link, x_semacquire_x link⟩, x_semacquire_f link⟩
instance : TUP Tryd.prog 82 84 := ⟨_, Tryd.underlying82, Tryd.underlying84, by kernel_rfl⟩
instance : TUP Tryd.prog 90 84 := ⟨_, Tryd.underlying90, Tryd.underlying84, by kernel_rfl⟩
instance : TCh Tryd.prog 53 3 := ⟨_, Tryd.underlying53⟩
instance : TCh Tryd.prog 54 67 := ⟨_, Tryd.underlying54⟩
end Go.Proofs.YtafhinjggdknjaaDoor
