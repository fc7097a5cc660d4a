/- A sender's select; the starter's close; a child's birth and end; looks; channels made. No program in sight. -/
import Derived.Test.YtjkiioicjmaeoaaQZC
import Derived.Conc.WgGenN2
import Derived.Conc.AppendEvents3
import Derived.Conc.Token
set_option linter.unusedVariables false
set_option linter.unusedSimpArgs false
namespace Go.X
open Go Go.Sx Go.Conc Go.ConcN
open Go.ConcR (KK wgBlock WgAt stA smA rd wr mk)
theorem seen_sync {P : Program} {fn : FuncId} {es : Array Event} (h : ∀ e ∈ es, e.sync = true ∧ ∀ f, e.loc ≠ .mark (.extern f)) : seen P fn es = es := by
  rw [seen_def, seen_fold_sync _ es.toList _ #[] fun e he => h e (Array.mem_toList_iff.1 he)]
  simp
theorem close_sync (c : Nat) : ∀ e ∈ (#[⟨.obj c, false, true⟩, ⟨.obj c, true, true⟩] : Array Event), e.sync = true ∧ ∀ f, e.loc ≠ .mark (.extern f) := by
  intro e he
  simp only [List.mem_toArray, List.mem_cons, List.not_mem_nil, or_false] at he
  rcases he with rfl | rfl <;> simp
section
variable {P : Program} {main : Bool} {b : Frame} {a : Act} {kk : List Item} {cs : List Frame} {w : World} {opsA : Array Oper} {i : Nat} {restN : List Nat} {o : Oper}
theorem stepG_close_sync {x : Operand} {ats : Array TypeId} (ho : opsA[i]? = some o) (hw : Region.wanted o (yielded opsA a.tmps) = true) (hk : b.kind ≠ .early) (hop : o.op = .call { callee := .builtin .close, args := #[x], argTypes := ats })
    {c cap s r : Nat} {buf : Array Value} {tm : Bool} (hx : a.eval x = .chan (some c)) (hc : w.heap[c]? = some (.chan cap buf false s r tm)) :
    stepG P main (G (b.at a (.inRegion opsA (i :: restN) :: kk)) cs) w = .go (G (b.at (a.put o.dst (.tuple #[])) (.inRegion opsA restN :: kk)) cs) (w.setChan c cap buf true s r tm) #[⟨.obj c, false, true⟩, ⟨.obj c, true, true⟩] := by
  simp only [Act.eval, Array.getD_eq_getD_getElem?] at hx
  have hr : (execOp a.eval o).run P w = .ok (.value (.tuple #[])) (w.setChan c cap buf true s r tm) := by
    unfold execOp
    simp only [hop]
    simp [go_sem, hx, run_close_open _ _ hc, World.setChan]
  have he : (execOp a.eval o).events P w #[] = #[⟨.obj c, false, true⟩, ⟨.obj c, true, true⟩] := by
    unfold execOp
    simp only [hop]
    simp [go_sem, hx, events_close_open _ _ hc]
  rw [stepG_value ho hw hk hr]
  unfold listed
  rw [he, seen_sync (close_sync c)]
def opConst : Operand → Bool | .const _ => true | _ => false
def dclose (ats : Array TypeId) (t : TypeId) (kc : Array Bool) (c : Nat) : Deferred := { target := .builtin .close ats t kc, args := #[.chan (some c)] }
theorem stepG_unwind_close {todo : List Item} {ds : List Deferred} {ats : Array TypeId} {t : TypeId} {kc : Array Bool} {c cap s r : Nat} {buf : Array Value} {tm : Bool} (hd : a.defers = dclose ats t kc c :: ds) (hc : w.heap[c]? = some (.chan cap buf false s r tm)) :
    stepG P main (G { b.at a todo with mode := .returning } cs) w = .go (G { b.at ⟨a.tmps, ds⟩ todo with mode := .returning } cs) (w.setChan c cap buf true s r tm) #[⟨.obj c, false, true⟩, ⟨.obj c, true, true⟩] := by
  have hrT : (Builtin.close_ ats t #[.chan (some c)]).run P w = .ok (.tuple #[]) { w with heap := w.heap.setIfInBounds c (.chan cap buf true s r tm) } := run_close_open _ _ hc
  have hev : (Builtin.close_ ats t #[.chan (some c)]).events P w #[] = #[⟨.obj c, false, true⟩, ⟨.obj c, true, true⟩] := by rw [events_close_open _ _ hc]; rfl
  have hl : seen P b.fn ((Builtin.close_ ats t #[.chan (some c)]).events P w #[]) = #[⟨.obj c, false, true⟩, ⟨.obj c, true, true⟩] := by rw [hev, seen_sync (close_sync c)]
  simp [G, stepG, unwind, callDeferred, Frame.at, hd, dclose, invoke, builtin, hrT, GStep.after, World.setChan] at hl ⊢
  exact hl
end
section
variable {q : Bool} {P : Program} {n : NF} {W0 : GW} {Q : Exit → Act → GW → Prop} {F : Slots} {H : Heap} {L : List HProp} {ops : Array Oper} {rest : List Oper} {k : List Fr} {op : Op} {ty : TypeId} {pos : String} {aft : Array Edge} {d : Tmp} {dst : Option Tmp} {g : Option (Nat × Bool)} {K : Value → GW → Heap → List HProp → Prop}
theorem ops_defer {f : FuncId} {ags : Array Operand} {at_ : Array TypeId} {vs : List Value} (hv : opvs F ags.toList = some vs) (hk : Ops P ⟨n.n, dcall f vs.toArray :: n.D⟩ W0 Q F H L false ops rest k) :
    Ops P n W0 Q F H L false ops (⟨none, .defer ⟨.value (.func f), ags, at_⟩, ty, pos, aft, none⟩ :: rest) k := ⟨by
  intro a w hF hS
  unfold wpListV
  rw [if_pos (by simp [Region.wanted])]
  intro Wr hsm ops' j rest' b kk cs ho hw hb hc
  have hm : ags.map a.eval = vs.toArray := by
    have := (opvs_args hv).eval hF
    rw [← this, ← Array.toList_map, Array.toArray_toList]
  refine .ctl rfl (fun main w1 => stepG_defer ho hw hb rfl) (hc _ _ ⟨w, rep_xw hsm, hk.run _ w ?_ hS⟩)
  rw [hm]
  exact ⟨hF.size, by show dcall f vs.toArray :: a.defers = _; rw [hF.defs], hF.get⟩⟩
theorem stepG_deferB {main : Bool} {b : Frame} {a : Act} {kk : List Item} {cs : List Frame} {w : World} {opsA : Array Oper} {i : Nat} {restN : List Nat} {x : Operand} {at_ : Array TypeId} {c : Nat} (ho : opsA[i]? = some ⟨none, .defer ⟨.builtin .close, #[x], at_⟩, ty, pos, aft, none⟩)
    (hw : Region.wanted (⟨none, .defer ⟨.builtin .close, #[x], at_⟩, ty, pos, aft, none⟩ : Oper) (yielded opsA a.tmps) = true) (hk : b.kind ≠ .early) (hx : a.eval x = .chan (some c)) :
    stepG P main (G (b.at a (.inRegion opsA (i :: restN) :: kk)) cs) w = .go (G (b.at ⟨a.tmps, dclose at_ ty #[opConst x] c :: a.defers⟩ (.inRegion opsA restN :: kk)) cs) w #[] := by
  have hr : (execOp a.eval ⟨none, .defer ⟨.builtin .close, #[x], at_⟩, ty, pos, aft, none⟩).run P w = .ok (.defer (dclose at_ ty #[opConst x] c)) w := by
    have hx' : (#[x] : Array Operand).map a.eval = #[.chan (some c)] := by simp [hx]
    unfold execOp
    simp only [resolve, hx', dclose]
    cases x <;> simp [opConst]
  have he : (execOp a.eval ⟨none, .defer ⟨.builtin .close, #[x], at_⟩, ty, pos, aft, none⟩).events P w #[] = #[] := by
    unfold execOp
    simp [resolve]
  have hfin : (b.at ⟨a.tmps, dclose at_ ty #[opConst x] c :: a.defers⟩ (.inRegion opsA (i :: restN) :: kk)).finish undef = b.at ⟨a.tmps, dclose at_ ty #[opConst x] c :: a.defers⟩ (.inRegion opsA restN :: kk) := by
    rw [Frame.finish_at, ho]; rfl
  have hk' : (b.kind == CallKind.early) = false := by simpa using hk
  rw [stepG_oper ho hw, ← hfin]
  simp [stepG.apply, hr, he, G, Frame.at, hk', GStep.after, seen_none]
theorem ops_deferClose {x : Operand} {at_ : Array TypeId} {c : Nat} (hv : opv F x = some (.chan (some c))) (hk : Ops P ⟨n.n, dclose at_ ty #[opConst x] c :: n.D⟩ W0 Q F H L false ops rest k) :
    Ops P n W0 Q F H L false ops (⟨none, .defer ⟨.builtin .close, #[x], at_⟩, ty, pos, aft, none⟩ :: rest) k := ⟨by
  intro a w hF hS
  unfold wpListV
  rw [if_pos (by simp [Region.wanted])]
  intro Wr hsm ops' j rest' b kk cs ho hw hb hc
  refine .ctl rfl (fun main w1 => stepG_deferB ho hw hb (hF.opv hv)) (hc _ _ ⟨w, rep_xw hsm, hk.run _ w ?_ hS⟩)
  exact ⟨hF.size, by show dclose _ _ _ _ :: a.defers = _; rw [hF.defs], hF.get⟩⟩
def bodyPostD (D : List Deferred) (R : GW → Prop) (e : Exit) (a : Act) (w : GW) : Prop := (e = .normal ∨ e = .ret) ∧ a.defers = D ∧ R w
theorem outD {D : List Deferred} {R : GW → Prop} {e : Exit} (he : e = .normal ∨ e = .ret) (hD : n.D = D) (h : ∀ w, StG W0 H w L → R w) : Out P n W0 (bodyPostD D R) F H L e [] :=
  ⟨fun a w hF hS => ⟨he, hF.defs.trans hD, h w hS⟩⟩
theorem results_nil {fn : Func} (h : fn.results = #[]) (tmps : Array Value) (w : World) : (results fn tmps).run P w = .ok (.tuple #[]) w := results_none h tmps P w
theorem leave_nil {Wr : BW} {w : GW} {f : FuncId} {fn : Func} {a : Act} {todo : List Item} {c' : Frame} {cs : List Frame} {m : Heap} {s : Gh} (hf : P.funcs[f]? = some fn) (hr : fn.results = #[]) (hd : a.defers = [])
    (h : MI P kd Wr.toWorld (SB P Wr) (G (c'.finish (.tuple #[])) cs) ⟨m, s⟩) : MI P kd Wr.toWorld (SB P Wr) (G { (base f).at a todo with mode := .returning } (c' :: cs)) ⟨m, s⟩ := by
  refine .own ⟨rfl, fun w1 he hl _ => ⟨_, w1, _, m, stepG_leaveE (b := base f) rfl hd hf (results_nil hr _ _), ?_, hl, fun _ hb => .inl hb, h⟩⟩
  have : (results fn a.tmps).events P w1 #[] = #[] := events_results_none hr _ _
  rw [this]
  exact ⟨fun _ _ _ => rfl, Nat.le_refl _, rfl, rfl, rfl, fun e he => absurd (mem_seen he) (by simp), fun e he => absurd (mem_seen he) (by simp)⟩
theorem CtG.goMark {kx : Nat} {f fe : FuncId} {fn : Func} {code : Code} {vs : List Value} {A : List HProp} {Post : Value → GW → Heap → List HProp → Prop} {μ : Mark} [hb : TBody P f fn code kx] [ht : TMark P fe μ] (hr : fn.results = #[])
    (h : ∀ R, Ex P ⟨kx, []⟩ W0 (bodyPostD [dcall fe #[]] fun w => ∃ W1 c st H' B, W1.s = .co c ∧ Marks c μ st ∧ Post (.tuple #[]) (setS W1 (.co { c with st := st })) H' B ∧ StG W1 H' w (B ++ R)) (parF 0 vs) H (A ++ R) code [])
    (hl : Nat.ble vs.length kx = true := by rfl) : CtG P f vs.toArray W0 H A Post := by
  intro w R hS Wr hsm c' cs hR
  rw [enter_at vs.toArray hb.get hb.body]
  obtain ⟨fx, hx, hfx, hne⟩ := ht.ex
  have leave : ∀ (a : Act) (todo : List Item) (w1 : GW), Sm Wr w1 → a.defers = [dcall fe #[]] → (∃ W1 c st H' B, W1.s = .co c ∧ Marks c μ st ∧ Post (.tuple #[]) (setS W1 (.co { c with st := st })) H' B ∧ StG W1 H' w1 (B ++ R)) →
      MI P kd Wr.toWorld (SB P Wr) (G { (base f).at a todo with mode := .returning } (c' :: cs)) (xw w1) := by
    rintro a todo w1 hsm1 hd ⟨W1, c, st, H', B, e1, e2, e3, e4⟩
    have hws : w1.s = .co c := e4.sh.trans e1
    refine MI.special (sb_mono P Wr) ?_
    unfold xw
    rw [hws]
    refine SP.mark e2 rfl (fun w2 _ _ _ => stepG_unwind_entry (v := .tuple #[]) (evs := #[⟨.mark μ, false, true⟩]) hd hx.get hx.name hx.body hx.next hfx (by simp [Extern.Race.none_]) (by simp) (by
      intro x hx'
      simp at hx'
      subst hx'
      exact ⟨rfl, fun g h => hne g (Loc.mark.inj h)⟩)) ?_
    obtain ⟨w', q1, q2⟩ := stG_make e4 hsm1 (m := hp w1.toWorld) (.co { c with st := st }) (bnd_hp _) e4.ro e4.own (by rw [show pool (.co { c with st := st }) = pool (.co c) from rfl, ← e1]; exact e4.dj)
    exact leave_nil (w := w') hb.get hr rfl (hR _ _ ⟨w', q1, _, _, _, _, rfl, e3, q2⟩)
  refine (h R).run _ w (frOk_par hb.ntmps hl) hS Wr hsm (base f) [] (c' :: cs) (by simp [base]) fun e a' x' q => ?_
  obtain ⟨w1, hrep, he, hd, hw1⟩ := q
  rw [hrep.eq]
  rcases he with rfl | rfl
  · exact .ctl rfl (fun _ _ => stepG_end) (leave a' [] w1 hrep.sm hd hw1)
  · exact fun todo => leave a' todo w1 hrep.sm hd hw1
theorem CtG.goShut {kx : Nat} {f : FuncId} {fn : Func} {code : Code} {vs : List Value} {A : List HProp} {Post : Value → GW → Heap → List HProp → Prop} {ats : Array TypeId} {t : TypeId} {kc : Array Bool} {ch : Nat} [hb : TBody P f fn code kx] (hr : fn.results = #[])
    (h : ∀ R, Ex P ⟨kx, []⟩ W0 (bodyPostD [dclose ats t kc ch] fun w => ∃ W1 c H' B, W1.s = .snd c ∧ c.ch = ch ∧ (c.rem = [] ∨ c.off = true) ∧ c.closed = false ∧ (c.fst = true → Disj c.base c.win) ∧ Post (.tuple #[]) (setS W1 (.snd { c with closed := true, fst := false })) H' B ∧ StG W1 H' w (B ++ R)) (parF 0 vs) H (A ++ R) code [])
    (hl : Nat.ble vs.length kx = true := by rfl) : CtG P f vs.toArray W0 H A Post := by
  intro w R hS Wr hsm c' cs hR
  rw [enter_at vs.toArray hb.get hb.body]
  have leave : ∀ (a : Act) (todo : List Item) (w1 : GW), Sm Wr w1 → a.defers = [dclose ats t kc ch] → (∃ W1 c H' B, W1.s = .snd c ∧ c.ch = ch ∧ (c.rem = [] ∨ c.off = true) ∧ c.closed = false ∧ (c.fst = true → Disj c.base c.win) ∧ Post (.tuple #[]) (setS W1 (.snd { c with closed := true, fst := false })) H' B ∧ StG W1 H' w1 (B ++ R)) →
      MI P kd Wr.toWorld (SB P Wr) (G { (base f).at a todo with mode := .returning } (c' :: cs)) (xw w1) := by
    rintro a todo w1 hsm1 hd ⟨W1, c, H', B, e1, e2, e3, e4, e5, e6, e7⟩
    subst e2
    have hws : w1.s = .snd c := e7.sh.trans e1
    have hdj : Disj (hp w1.toWorld) c.base := by
      have := e7.dj
      rw [e1] at this
      simp only [pool] at this
      split at this
      · exact disj_of_join_left this
      · exact this
    refine MI.special (sb_mono P Wr) ?_
    unfold xw
    rw [hws]
    refine SP.shut (g' := G { (base f).at ⟨a.tmps, []⟩ todo with mode := .returning } (c' :: cs)) e3 e4 rfl rfl (fun w2 s r _ _ hch => stepG_unwind_close hd hch) ?_
    obtain ⟨w', q1, q2⟩ := stG_make e7 hsm1 (m := hp w1.toWorld) (.snd { c with closed := true, fst := false }) (bnd_hp _) e7.ro e7.own hdj
    exact leave_nil (w := w') hb.get hr rfl (hR _ _ ⟨w', q1, _, _, _, _, rfl, e6, q2⟩)
  refine (h R).run _ w (frOk_par hb.ntmps hl) hS Wr hsm (base f) [] (c' :: cs) (by simp [base]) fun e a' x' q => ?_
  obtain ⟨w1, hrep, he, hd, hw1⟩ := q
  rw [hrep.eq]
  rcases he with rfl | rfl
  · exact .ctl rfl (fun _ _ => stepG_end) (leave a' [] w1 hrep.sm hd hw1)
  · exact fun todo => leave a' todo w1 hrep.sm hd hw1
end
end Go.X
namespace Go.X
open Go Go.Sx Go.Conc Go.ConcN
open Go.ConcR (KK wgBlock WgAt stA smA rd wr mk)
section
variable {q : Bool} {P : Program} {n : NF} {W0 : GW} {Q : Exit → Act → GW → Prop} {F : Slots} {H : Heap} {L : List HProp} {ops : Array Oper} {rest : List Oper} {k : List Fr} {op : Op} {ty : TypeId} {pos : String} {aft : Array Edge} {d : Tmp} {dst : Option Tmp} {g : Option (Nat × Bool)} {K : Value → GW → Heap → List HProp → Prop}
theorem opG_sel {c : Cs} {y z1 z2 : Value} {ys : List Value} {e1 e2 : TypeId} {x1 x2 x3 : Operand} [h1 : TZ P e1 z1] [h2 : TZ P e2 z2] (hs : W0.s = .snd c) (hrem : c.rem = y :: ys) (hoff : c.off = false) (hcl : c.closed = false) (hd : c.fst = true → Disj c.base c.win)
    (hx1 : opv F x1 = some (.chan (some c.ch))) (hx2 : opv F x2 = some y) (hx3 : opv F x3 = some (.chan (some c.ech)))
    (k0 : K (.tuple #[.int .i64 0, .bool false, z2]) (setS W0 (.snd { c with rem := ys, fst := false })) H L) (k1 : K (.tuple #[.int .i64 1, .bool false, z2]) (setS W0 (.snd { c with off := true, fst := false })) H L) :
    OpG P n W0 ⟨dst, .select #[⟨x1, some x2, e1⟩, ⟨x3, none, e2⟩] true, ty, pos, aft, g⟩ F H L K := by
  intro a w next Q hF hS hn Wr hsm ops j rest b kk cs ho hw hb hc
  have hws : w.s = .snd c := hS.sh.trans hs
  have hdj : Disj (hp w.toWorld) c.base := by
    have := hS.dj
    rw [hs] at this
    simp only [pool] at this
    split at this
    · exact disj_of_join_left this
    · exact this
  have hrun : ∀ w1, (execOp a.eval ⟨dst, .select #[⟨x1, some x2, e1⟩, ⟨x3, none, e2⟩] true, ty, pos, aft, g⟩).run P w1 = .ok (.comm #[scase c.ch y z1, rcase c.ech z2] true .select) w1 := fun w1 => by
    simp only [execOp]
    simp [hF.opv hx1, hF.opv hx2, hF.opv hx3, h1.run, h2.run, scase, rcase]
  have hev : ∀ w1, (execOp a.eval ⟨dst, .select #[⟨x1, some x2, e1⟩, ⟨x3, none, e2⟩] true, ty, pos, aft, g⟩).events P w1 #[] = #[] := fun w1 => by
    simp only [execOp]
    simp [h1.run, h2.run]
  have srv : ∀ v, Go.Conc.served (G (b.at a (.inRegion ops (j :: rest) :: kk)) cs) v = G (b.at (a.put dst v) (.inRegion ops rest :: kk)) cs := fun v => by rw [served_G, ho]; rfl
  refine MI.special (sb_mono P Wr) ?_
  unfold xw
  rw [hws]
  refine SP.sel (z1 := z1) (z2 := z2) hrem hoff hcl rfl (fun w1 he hl => by rw [stepG_comm ho hw hb (hrun w1), listed_nil (hev w1)]) ?_ ?_
  · obtain ⟨w', q1, q2⟩ := stG_make hS hsm (m := hp w.toWorld) (.snd { c with rem := ys, fst := false }) (bnd_hp _) hS.ro hS.own hdj
    have e : (G (b.at a (.inRegion ops (j :: rest) :: kk)) cs).finishComm P #[scase c.ch y z1, rcase c.ech z2] .select 0 undef false = G (b.at (a.put dst (.tuple #[.int .i64 0, .bool false, z2])) (.inRegion ops rest :: kk)) cs := by
      rw [← srv, finishComm_served]
      exact congrArg _ (by simp [commResult, scase, rcase, goInt])
    rw [e]
    exact hc _ _ ⟨w', q1, hn _ _ _ _ _ k0 q2⟩
  · obtain ⟨w', q1, q2⟩ := stG_make hS hsm (m := hp w.toWorld) (.snd { c with off := true, fst := false }) (bnd_hp _) hS.ro hS.own hdj
    have e : (G (b.at a (.inRegion ops (j :: rest) :: kk)) cs).finishComm P #[scase c.ch y z1, rcase c.ech z2] .select 1 z2 false = G (b.at (a.put dst (.tuple #[.int .i64 1, .bool false, z2])) (.inRegion ops rest :: kk)) cs := by
      rw [← srv, finishComm_served]
      exact congrArg _ (by simp [commResult, scase, rcase, goInt])
    rw [e]
    exact hc _ _ ⟨w', q1, hn _ _ _ _ _ k1 q2⟩
theorem opG_clos {c : Co} {x : Operand} {at_ : Array TypeId} (hs : W0.s = .co c) (hst : c.st = .run) (hsh : c.shut = false) (hwn : c.wn = false) (hx : opv F x = some (.chan (some c.ech)))
    (hk : K (.tuple #[]) (setS W0 (.co { c with shut := true })) H L) : OpG P n W0 ⟨dst, .call ⟨.builtin .close, #[x], at_⟩, ty, pos, aft, g⟩ F H L K := by
  intro a w next Q hF hS hn Wr hsm ops j rest b kk cs ho hw hb hc
  have hws : w.s = .co c := hS.sh.trans hs
  refine MI.special (sb_mono P Wr) ?_
  unfold xw
  rw [hws]
  refine SP.clos hst hsh hwn rfl ?_ (fun w1 s r _ _ _ hch => stepG_close_sync ho hw hb rfl (hF.opv hx) hch) ?_
  · simp [mayWake, G, Frame.at, ho]
  · exact hc _ _ (hat_turn hS hsm hs rfl fun w' h => hn _ _ _ _ _ hk h)
theorem sx_pk {v : Value} {rest : List Oper} (hd : Nat.blt d n = true) (h : ∀ a w, FrOk n a F → StG W0 H w L → (⟨some d, op, ty, pos, aft, none⟩ : Oper).pkV P a.eval w v) (hk : SL q P n W0 ((d, v) :: F) H L ops Q rest) :
    SL q P n W0 F H L ops Q (⟨some d, op, ty, pos, aft, none⟩ :: rest) := by
  cases q with
  | false =>
    intro a w hF hS
    unfold wpListV
    rw [if_pos (by simp [Region.wanted])]
    exact wpV_of_pk (h a w hF hS) (hk _ _ (hF.put hd v) hS)
  | true => exact ⟨d, v, rfl, hd, .inl fun a w hF hS => ⟨by simp [Region.wanted], .inr (h a w hF hS)⟩, hk⟩
theorem cell_of_pool {p : Heap} {w : World} {b off : Nat} {v : Value} (hl : p.le (rp w)) (hc : hcell p b off = some v) : w.cell? ⟨b, off, none⟩ = some v := by
  unfold hcell at hc
  cases h : p b with
  | none => rw [h] at hc; cases hc
  | some o =>
    rw [h] at hc
    cases o <;> try (cases hc; done)
    have := hl b _ h
    simp only [rp] at this
    simp only at hc
    simp [World.cell?, this, hc]
theorem pool_ne {p : Heap} {b off : Nat} {v : Value} (hc : hcell p b off = some v) : p b ≠ none := by
  unfold hcell at hc
  intro h
  rw [h] at hc; cases hc
theorem pk_load1 {a : Act} {w : GW} {t : TypeId} {x : Operand} {b off : Nat} {v : Value} [ht : TAgg P t false] (hF : FrOk n a F) (hS : StG W0 H w L) (hx : opv F x = some (.pointer (some ⟨b, off, none⟩))) (hc : hcell (pool W0.s) b off = some v) :
    (⟨dst, .load t x, ty, pos, aft, g⟩ : Oper).pkV P a.eval w v := by
  intro Wr hsm w1 he hl hp _
  rw [hS.sh] at hp ⊢
  have h1 := cell_of_pool hp hc
  refine ⟨by simp [execOp, hF.opv hx, Instr.loadAt, Instr.sureAddr, run_loadVar1 (t := t) h1], fun e he' => ?_⟩
  have hev : (execOp a.eval ⟨dst, .load t x, ty, pos, aft, g⟩).events P w1 #[] = #[⟨.cell ⟨b, off, none⟩, false, false⟩] := by
    simp [execOp, hF.opv hx, Instr.loadAt, Instr.sureAddr, loadVar, ht.run, h1]
  rw [hev] at he'
  simp at he'
  subst he'
  exact .inl ⟨pool_ne hc, rfl⟩
theorem pk_loadN {a : Act} {w : GW} {t : TypeId} {x : Operand} {b off m : Nat} {vs : List Value} [ht : TAgg P t true] [hz : TSz P t m] (hF : FrOk n a F) (hS : StG W0 H w L) (hx : opv F x = some (.pointer (some ⟨b, off, none⟩))) (hc : HRow (pool W0.s) b off vs) (hl' : vs.length = m) (hm : 0 < m) :
    (⟨dst, .load t x, ty, pos, aft, g⟩ : Oper).pkV P a.eval w (.agg vs.toArray) := by
  intro Wr hsm w1 he hl hp _
  rw [hS.sh] at hp ⊢
  have h1 : ∀ j v, vs[j]? = some v → w1.cell? ((⟨b, off, none⟩ : Addr).add j) = some v := fun j v hj => by
    rw [Addr.add_lit]; exact cell_of_pool hp (hc j v hj)
  refine ⟨by simp [execOp, hF.opv hx, Instr.loadAt, Instr.sureAddr, run_loadVarN (t := t) hl' h1], fun e he' => ?_⟩
  have hev : (execOp a.eval ⟨dst, .load t x, ty, pos, aft, g⟩).events P w1 #[] = (loadCells ⟨b, off, none⟩ m).events P w1 #[] := by
    simp [execOp, hF.opv hx, Instr.loadAt, Instr.sureAddr, loadVar, ht.run, hz.run]
  rw [hev] at he'
  have := events_loadCellsFrom_at (P := P) ⟨b, off, none⟩ (fun x => x = b) rfl m 0 #[] w1 #[] (fun j hj => by
    have := h1 j vs[j] (List.getElem?_eq_getElem (by omega))
    rw [Nat.zero_add, this]; rfl) e he'
  rcases this with h | ⟨ad, e1, e2, e3⟩
  · simp at h
  · unfold Peek
    rw [e1]
    refine .inl ⟨?_, e2⟩
    rw [e3]
    exact pool_ne (hc 0 vs[0] (List.getElem?_eq_getElem (by omega)))
theorem ops_pk1 {t : TypeId} {x : Operand} {b off : Nat} {v : Value} [ht : TAgg P t false] (hx : opv F x = some (.pointer (some ⟨b, off, none⟩))) (hc : hcell (pool W0.s) b off = some v) (hk : Ops P n W0 Q ((d, v) :: F) H L q ops rest k) (hd : Nat.blt d n = true := by rfl) :
    Ops P n W0 Q F H L q ops (⟨some d, .load t x, ty, pos, aft, none⟩ :: rest) k := ⟨sx_pk hd (fun _ _ hF hS => pk_load1 hF hS hx hc) hk.run⟩
theorem ops_pkN {t : TypeId} {x : Operand} {b off m : Nat} {vs : List Value} [ht : TAgg P t true] [hz : TSz P t m] (hx : opv F x = some (.pointer (some ⟨b, off, none⟩))) (hc : HRow (pool W0.s) b off vs) (hl : vs.length = m) (hk : Ops P n W0 Q ((d, .agg vs.toArray) :: F) H L q ops rest k)
    (hm : 0 < m := by decide) (hd : Nat.blt d n = true := by rfl) : Ops P n W0 Q F H L q ops (⟨some d, .load t x, ty, pos, aft, none⟩ :: rest) k := ⟨sx_pk hd (fun _ _ hF hS => pk_loadN hF hS hx hc hl hm) hk.run⟩
theorem ex_quiet1 [hm : TMix P] {id m : Nat} {l : List Oper} {o1 : Oper} (hml : l.length = m) (hreach : ∀ j, j < m → Go.Sx.Reach (l ++ [o1]).toArray m j) (hok : flowOk (l ++ [o1]).toArray = true)
    (h : SQ P n W0 H L (l ++ [o1]).toArray (fun _ a w => wpListV P (l ++ [o1]).toArray (Kx P Q k) [o1] a w) l F) : Ex P n W0 Q F H L (.region id (l ++ [o1]).toArray true) k := ⟨fun a w hF hS => wpV_region_draw fun t => by
  simp only [Region.schedule, hm.h, Bool.true_or, if_true]
  exact flow_sound1 (by simp) hml hreach hok (fun _ _ h => h) h hF hS t⟩
theorem ops_makeChan {t e : TypeId} {x : Operand} {sz by_ : Nat} {z : Value} [ht : TCh P t e] [hi : TIn P e sz by_ z] (hx : opv F x = some (.int .i64 0)) (hk : ∀ b, Ops P n W0 Q ((d, .chan (some b)) :: F) H (pt b (.chan 0 #[] false 0 0 false) :: L) false ops rest k) (hd : Nat.blt d n = true := by rfl) :
    Ops P n W0 Q F H L false ops (⟨some d, .makeChan t x, ty, pos, aft, none⟩ :: rest) k := by
  refine ops_w rfl hd (.of_run fun a w hF hS => ?_)
  have hs : St _ H (w.alloc (.chan 0 #[] false 0 0 false)) (pt w.heap.size (.chan 0 #[] false 0 0 false) :: L) := hS.alloc (hS.env.of rfl rfl rfl) rfl
  obtain ⟨d', hu⟩ := ht.und
  obtain ⟨i, h1, _, _, _, _, _⟩ := hi.ex
  have hmax : (0 : Int) ≤ IntKind.i64.max := by decide
  refine ⟨_, H, _, _, ?_, .refl _, hk _, hs⟩
  simp only [execOp, hF.opv hx]
  simp [Instr.makeChan, asInt, asIntOf, run_underlying hu, typeInfo, h1, newObj, Sem.run]
end
end Go.X
