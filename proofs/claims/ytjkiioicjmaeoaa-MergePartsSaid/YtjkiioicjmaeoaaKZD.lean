/- Deferred calls; a sender's select and its channel's close; looks at what is lent; the starter's close; channels made. No program in sight. -/
import Derived.Test.YtjkiioicjmaeoaaKZB
import Derived.Conc.WgGenW
import Derived.Conc.WgArith
set_option linter.unusedVariables false
set_option linter.unusedSimpArgs false
namespace Go.X
open Go Go.Sx Go.Conc Go.ConcN
open Go.ConcR (KK wgBlock WgAt stA smA rd wr mk)
structure IsExt (P : Program) (f : FuncId) (fn : Func) : Prop where
  get : P.funcs[f]? = some fn
  name : (fn.name == "runtime.NumGoroutine") = false
  body : fn.body.isNone = true
  next : Extern.findNext fn = none
class TMark (P : Program) (f : FuncId) (μ : outParam Mark) : Prop where
  ex : ∃ fn, IsExt P f fn ∧ Extern.find fn = some (fun _ => do mark μ; pure Extern.Race.none_) ∧ ∀ g, μ ≠ .extern g
class TMarkAt (P : Program) (f : FuncId) (μ : outParam (Addr → Mark)) : Prop where
  ex : ∃ fn, IsExt P f fn ∧ Extern.find fn = some (Extern.Race.marked μ) ∧ ∀ a g, μ a ≠ .extern g
class TAtLoad (P : Program) (f : FuncId) : Prop where
  ex : ∃ fn, IsExt P f fn ∧ Extern.find fn = some (Extern.Atomic.loadT (.int .u64))
class TAtAdd (P : Program) (f : FuncId) : Prop where
  ex : ∃ fn, IsExt P f fn ∧ Extern.find fn = some (Extern.Atomic.update (Op.intArith .add) .u64 true)
class TAtCas (P : Program) (f : FuncId) : Prop where
  ex : ∃ fn, IsExt P f fn ∧ Extern.find fn = some (Extern.Atomic.casT (.int .u64))
class TSemA (P : Program) (f : FuncId) : Prop where
  ex : ∃ fn, IsExt P f fn ∧ Extern.find fn = some Extern.Sync.semacquire
class TConst (P : Program) (f : FuncId) (v : outParam Value) : Prop where
  ex : ∃ fn, IsExt P f fn ∧ Extern.find fn = some (fun _ => pure v)
section
variable {ty : TypeId} {wg : Nat} {w : World} {st sm : Int}
theorem wg_st (h : WgAt ty wg w st sm) : w.cell? (stA wg) = some (.int .u64 st) := by
  unfold WgAt at h; simp [World.cell?, stA, h, wgBlock]
theorem wg_sm (h : WgAt ty wg w st sm) : w.cell? (smA wg) = some (.int .u32 sm) := by
  unfold WgAt at h; simp [World.cell?, smA, h, wgBlock]
theorem wg_fzst (h : WgAt ty wg w st sm) : w.frozen? (stA wg) = false := by
  unfold WgAt at h; simp [World.frozen?, stA, h, wgBlock]
theorem wg_fzsm (h : WgAt ty wg w st sm) : w.frozen? (smA wg) = false := by
  unfold WgAt at h; simp [World.frozen?, smA, h, wgBlock]
end
section
variable {q : Bool} {P : Program} {n : NF} {W0 : GW} {Q : Exit → Act → GW → Prop} {F : Slots} {H : Heap} {L : List HProp} {ops : Array Oper} {rest : List Oper} {k : List Fr} {op : Op} {ty : TypeId} {pos : String} {aft : Array Edge} {d : Tmp} {dst : Option Tmp} {g : Option (Nat × Bool)} {K : Value → GW → Heap → List HProp → Prop}
theorem hat_turn {Wr : BW} {w : GW} {c c' : Co} {a' : Act} {next : Act → GW → Prop} (hS : StG W0 H w L) (hsm : Sm Wr w) (hs : W0.s = .co c) (hp' : pool (.co c') = pool (.co c)) (hn : ∀ w', StG (setS W0 (.co c')) H w' L → next a' w') :
    Hat Wr next a' ⟨hp w.toWorld, .co c'⟩ := by
  obtain ⟨w', q1, q2⟩ := stG_make hS hsm (m := hp w.toWorld) (.co c') (bnd_hp _) hS.ro hS.own (by rw [hp', ← hs]; exact hS.dj)
  exact ⟨w', q1, hn w' q2⟩
theorem opG_mark {c : Co} {st : Stg} {f : FuncId} {as : Array Operand} {at_ : Array TypeId} {μ : Mark} [ht : TMark P f μ] (hs : W0.s = .co c) (hm : Marks c μ st) (hk : K (.tuple #[]) (setS W0 (.co { c with st := st })) H L) :
    OpG P n W0 ⟨dst, .call ⟨.value (.func f), as, at_⟩, ty, pos, aft, g⟩ F H L K := by
  intro a w next Q hF hS hn Wr hsm ops j rest b kk cs ho hw hb hc
  have hws : w.s = .co c := hS.sh.trans hs
  obtain ⟨fn, hx, hf, hne⟩ := ht.ex
  refine MI.special (sb_mono P Wr) ?_
  unfold xw
  rw [hws]
  refine SP.mark hm rfl (fun w1 he hl hwg => stepG_mark0 μ hne ho hw hb rfl hx.get hx.name hx.body hx.next hf) ?_
  exact hc _ _ (hat_turn hS hsm hs rfl fun w' h => hn _ _ _ _ _ hk h)
theorem opG_markAt {c : Co} {st : Stg} {f : FuncId} {x : Operand} {at_ : Array TypeId} {μ : Addr → Mark} {ad : Addr} [ht : TMarkAt P f μ] (hs : W0.s = .co c) (hx : opv F x = some (.pointer (some ad))) (hm : Marks c (μ ad) st) (hk : K (.tuple #[]) (setS W0 (.co { c with st := st })) H L) :
    OpG P n W0 ⟨dst, .call ⟨.value (.func f), #[x], at_⟩, ty, pos, aft, g⟩ F H L K := by
  intro a w next Q hF hS hn Wr hsm ops j rest b kk cs ho hw hb hc
  have hws : w.s = .co c := hS.sh.trans hs
  obtain ⟨fn, he, hf, hne⟩ := ht.ex
  refine MI.special (sb_mono P Wr) ?_
  unfold xw
  rw [hws]
  refine SP.mark hm rfl (fun w1 _ hl hwg => stepG_markAt μ hne ho hw hb rfl he.get he.name he.body he.next hf (by simp [hF.opv hx])) ?_
  exact hc _ _ (hat_turn hS hsm hs rfl fun w' h => hn _ _ _ _ _ hk h)
theorem opG_load {c : Co} {m : Nat} {f : FuncId} {x : Operand} {at_ : Array TypeId} [ht : TAtLoad P f] (hs : W0.s = .co c) (hst : c.st = .w0 m) (hx : opv F x = some (.pointer (some (stA c.wg))))
    (h0 : K (.int .u64 0) (setS W0 (.co { c with st := .fin })) H L) (h1 : ∀ v : Nat, v ≤ m → v ≠ 0 → K (.int .u64 (v * KK)) (setS W0 (.co { c with st := .w1 v })) H L) :
    OpG P n W0 ⟨dst, .call ⟨.value (.func f), #[x], at_⟩, ty, pos, aft, g⟩ F H L K := by
  intro a w next Q hF hS hn Wr hsm ops j rest b kk cs ho hw hb hc
  have hws : w.s = .co c := hS.sh.trans hs
  obtain ⟨fn, he, hf⟩ := ht.ex
  refine MI.special (sb_mono P Wr) ?_
  unfold xw
  rw [hws]
  refine SP.load hst rfl fun v w1 hv _ hl hwg => ⟨_, stepG_load_atomic ho hw hb rfl he.get he.name he.body he.next .u64 hf (hF.opv hx) (wg_st hwg), fun e => ?_, fun e => ?_⟩
  · subst e
    refine hc _ _ (hat_turn hS hsm hs rfl fun w' h => ?_)
    have := hn _ _ _ _ _ h0 h
    simpa using this
  · exact hc _ _ (hat_turn hS hsm hs rfl fun w' h => hn _ _ _ _ _ (h1 v hv e) h)
theorem opG_load0 {c : Co} {f : FuncId} {x : Operand} {at_ : Array TypeId} [ht : TAtLoad P f] (hs : W0.s = .co c) (hst : c.st = .up) (hx : opv F x = some (.pointer (some (stA c.wg))))
    (h0 : K (.int .u64 0) (setS W0 (.co { c with st := .fin })) H L) :
    OpG P n W0 ⟨dst, .call ⟨.value (.func f), #[x], at_⟩, ty, pos, aft, g⟩ F H L K := by
  intro a w next Q hF hS hn Wr hsm ops j rest b kk cs ho hw hb hc
  have hws : w.s = .co c := hS.sh.trans hs
  obtain ⟨fn, he, hf⟩ := ht.ex
  refine MI.special (sb_mono P Wr) ?_
  unfold xw
  rw [hws]
  refine SP.load0 hst rfl fun w1 _ hl hwg => ⟨_, stepG_load_atomic ho hw hb rfl he.get he.name he.body he.next .u64 hf (hF.opv hx) (wg_st hwg), ?_⟩
  exact hc _ _ (hat_turn hS hsm hs rfl fun w' h => hn _ _ _ _ _ h0 h)
theorem wrap_count {v : Nat} (hv : v < 2147483648) : IntKind.u64.wrap ((v : Int) * KK + KK) = ((v + 1 : Nat) : Int) * KK := by
  rw [IntKind.wrap_u64]; simp only [KK]; push_cast; omega
theorem opG_add {c : Co} {f : FuncId} {x y : Operand} {at_ : Array TypeId} [ht : TAtAdd P f] (hs : W0.s = .co c) (hst : c.st = .off) (hlen : c.snd.length < 2147483648) (hx : opv F x = some (.pointer (some (stA c.wg)))) (hy : opv F y = some (.int .u64 4294967296))
    (h1 : ∀ v : Nat, v ≤ c.snd.length → K (.int .u64 ((v + 1 : Nat) * KK)) (setS W0 (.co { c with st := .adm })) H L) :
    OpG P n W0 ⟨dst, .call ⟨.value (.func f), #[x, y], at_⟩, ty, pos, aft, g⟩ F H L K := by
  intro a w next Q hF hS hn Wr hsm ops j rest b kk cs ho hw hb hc
  have hws : w.s = .co c := hS.sh.trans hs
  obtain ⟨fn, he, hf⟩ := ht.ex
  refine MI.special (sb_mono P Wr) ?_
  unfold xw
  rw [hws]
  refine SP.add hst rfl fun v w1 hv _ hl hwg => ?_
  have hstep := stepG_add_atomic (P := P) (main := true) (kk := kk) (cs := cs) (rest := rest) ho hw hb rfl he.get he.name he.body he.next .u64 hf (hF.opv hx) (hF.opv hy) (wg_st hwg) (wg_fzst hwg)
  rw [show (4294967296 : Int) = KK from rfl, wrap_count (by omega)] at hstep
  exact ⟨_, hstep, hc _ _ (hat_turn hS hsm hs rfl fun w' h => hn _ _ _ _ _ (h1 v hv) h)⟩
theorem opG_cas {c : Co} {u : Nat} {f : FuncId} {x y z : Operand} {at_ : Array TypeId} {e1 e2 : Int} [ht : TAtCas P f] (hs : W0.s = .co c) (hst : c.st = .w1 u) (hx : opv F x = some (.pointer (some (stA c.wg)))) (hy : opv F y = some (.int .u64 e1)) (hz : opv F z = some (.int .u64 e2))
    (q1 : e1 = u * KK) (q2 : e2 = u * KK + 1)
    (h1 : K (.bool true) (setS W0 (.co { c with st := .reg })) H L) (h0 : ∀ v : Nat, v < u → K (.bool false) (setS W0 (.co { c with st := .w0 v })) H L) :
    OpG P n W0 ⟨dst, .call ⟨.value (.func f), #[x, y, z], at_⟩, ty, pos, aft, g⟩ F H L K := by
  intro a w next Q hF hS hn Wr hsm ops j rest b kk cs ho hw hb hc
  have hws : w.s = .co c := hS.sh.trans hs
  obtain ⟨fn, he, hf⟩ := ht.ex
  subst q1 q2
  refine MI.special (sb_mono P Wr) ?_
  unfold xw
  rw [hws]
  refine SP.cas hst rfl fun v w1 hv _ hl hwg => ⟨fun e => ?_, fun e => ?_⟩
  · subst e
    exact ⟨_, stepG_cas_hit ho hw hb rfl he.get he.name he.body he.next .u64 hf (hF.opv hx) (hF.opv hy) (hF.opv hz) (wg_st hwg) (wg_fzst hwg), hc _ _ (hat_turn hS hsm hs rfl fun w' h => hn _ _ _ _ _ h1 h)⟩
  · exact ⟨_, stepG_cas_miss ho hw hb rfl he.get he.name he.body he.next .u64 hf (hF.opv hx) (hF.opv hy) (hF.opv hz) (wg_st hwg) (wg_fzst hwg) (by simp only [KK]; omega), hc _ _ (hat_turn hS hsm hs rfl fun w' h => hn _ _ _ _ _ (h0 v (by omega)) h)⟩
theorem opG_sem {c : Co} {f : FuncId} {x y : Operand} {at_ : Array TypeId} [ht : TSemA P f] (hs : W0.s = .co c) (hst : c.st = .reg) (hx : opv F x = some (.pointer (some (smA c.wg))))
    (h1 : K (.tuple #[]) (setS W0 (.co { c with st := .up })) H L) :
    OpG P n W0 ⟨dst, .call ⟨.value (.func f), #[x, y], at_⟩, ty, pos, aft, g⟩ F H L K := by
  intro a w next Q hF hS hn Wr hsm ops j rest b kk cs ho hw hb hc
  have hws : w.s = .co c := hS.sh.trans hs
  obtain ⟨fn, he, hf⟩ := ht.ex
  have ha : ((#[x, y] : Array Operand).map a.eval)[0]? = some (.pointer (some (smA c.wg))) := by simp [hF.opv hx]
  refine MI.special (sb_mono P Wr) ?_
  unfold xw
  rw [hws]
  refine SP.sem hst rfl rfl (fun w1 st _ hl hwg => stepG_semacquire_wait ho hw rfl he.get he.name he.body he.next hf ha (wg_sm hwg)) fun w1 _ hl hwg => ⟨_, ?_, hc _ _ (hat_turn hS hsm hs rfl fun w' h => hn _ _ _ _ _ h1 h)⟩
  exact stepG_semacquire ho hw hb rfl he.get he.name he.body he.next hf ha (wg_sm hwg) (by decide) (wg_fzsm hwg)
theorem stepG_ext_pure {main : Bool} {b : Frame} {a : Act} {kk : List Item} {cs : List Frame} {w : World} {opsA : Array Oper} {i : Nat} {restN : List Nat} {o : Oper} {f : FuncId} {as : Array Operand} {ats : Array TypeId} {fn : Func} {v : Value}
    (ho : opsA[i]? = some o) (hw : Region.wanted o (yielded opsA a.tmps) = true) (hk : b.kind ≠ .early) (hop : o.op = .call { callee := .value (.func f), args := as, argTypes := ats }) (hx : IsExt P f fn) (he : Extern.find fn = some (fun _ => pure v)) :
    stepG P main (G (b.at a (.inRegion opsA (i :: restN) :: kk)) cs) w = .go (G (b.at (a.put o.dst v) (.inRegion opsA restN :: kk)) cs) w #[] :=
  stepG_entry ho hw hk hop hx.get hx.name hx.body hx.next he (by simp) (by simp) (by intro x h; simp at h)
theorem op_const {f : FuncId} {as : Array Operand} {at_ : Array TypeId} {v : Value} [ht : TConst P f v] (hk : K v W0 H L) :
    OpG P n W0 ⟨dst, .call ⟨.value (.func f), as, at_⟩, ty, pos, aft, g⟩ F H L K := by
  intro a w next Q hF hS hn Wr hsm ops j rest b kk cs ho hw hb hc
  obtain ⟨fn, hx, he⟩ := ht.ex
  refine .own ⟨rfl, fun w1 _ hl _ => ⟨_, w1, #[], _, stepG_ext_pure ho hw hb rfl hx he, .refl _ _, hl, fun _ hb => .inl hb, ?_⟩⟩
  exact hc _ _ ⟨w, rep_xw hsm, hn _ _ _ _ _ hk hS⟩
end
end Go.X
namespace Go.X
open Go Go.Sx Go.Conc Go.ConcN
open Go.ConcR (KK wgBlock WgAt stA smA rd wr mk)
theorem seen_sync {P : Program} {fn : FuncId} {es : Array Event} (h : ∀ e ∈ es, e.sync = true ∧ ∀ f, e.loc ≠ .mark (.extern f)) : seen P fn es = es := by
  rw [seen_def, seen_fold_sync _ es.toList _ #[] fun e he => h e (Array.mem_toList_iff.1 he)]
  simp
theorem close_sync (c : Nat) : ∀ e ∈ (#[⟨.obj c, false, true⟩, ⟨.obj c, true, true⟩] : Array Event), e.sync = true ∧ ∀ f, e.loc ≠ .mark (.extern f) := by
  intro e he
  simp only [List.mem_toArray, List.mem_cons, List.not_mem_nil, or_false] at he
  rcases he with rfl | rfl <;> simp
section
variable {P : Program} {main : Bool} {b : Frame} {a : Act} {kk : List Item} {cs : List Frame} {w : World} {opsA : Array Oper} {i : Nat} {restN : List Nat} {o : Oper}
theorem stepG_close_sync {x : Operand} {ats : Array TypeId} (ho : opsA[i]? = some o) (hw : Region.wanted o (yielded opsA a.tmps) = true) (hk : b.kind ≠ .early) (hop : o.op = .call { callee := .builtin .close, args := #[x], argTypes := ats })
    {c cap s r : Nat} {buf : Array Value} {tm : Bool} (hx : a.eval x = .chan (some c)) (hc : w.heap[c]? = some (.chan cap buf false s r tm)) :
    stepG P main (G (b.at a (.inRegion opsA (i :: restN) :: kk)) cs) w = .go (G (b.at (a.put o.dst (.tuple #[])) (.inRegion opsA restN :: kk)) cs) (w.setChan c cap buf true s r tm) #[⟨.obj c, false, true⟩, ⟨.obj c, true, true⟩] := by
  simp only [Act.eval, Array.getD_eq_getD_getElem?] at hx
  have hr : (execOp a.eval o).run P w = .ok (.value (.tuple #[])) (w.setChan c cap buf true s r tm) := by
    unfold execOp
    simp only [hop]
    simp [go_sem, hx, run_close_open _ _ hc, World.setChan]
  have he : (execOp a.eval o).events P w #[] = #[⟨.obj c, false, true⟩, ⟨.obj c, true, true⟩] := by
    unfold execOp
    simp only [hop]
    simp [go_sem, hx, events_close_open _ _ hc]
  rw [stepG_value ho hw hk hr]
  unfold listed
  rw [he, seen_sync (close_sync c)]
def opConst : Operand → Bool | .const _ => true | _ => false
def dclose (ats : Array TypeId) (t : TypeId) (kc : Array Bool) (c : Nat) : Deferred := { target := .builtin .close ats t kc, args := #[.chan (some c)] }
theorem stepG_unwind_close {todo : List Item} {ds : List Deferred} {ats : Array TypeId} {t : TypeId} {kc : Array Bool} {c cap s r : Nat} {buf : Array Value} {tm : Bool} (hd : a.defers = dclose ats t kc c :: ds) (hc : w.heap[c]? = some (.chan cap buf false s r tm)) :
    stepG P main (G { b.at a todo with mode := .returning } cs) w = .go (G { b.at ⟨a.tmps, ds⟩ todo with mode := .returning } cs) (w.setChan c cap buf true s r tm) #[⟨.obj c, false, true⟩, ⟨.obj c, true, true⟩] := by
  have hrT : (Builtin.close_ ats t #[.chan (some c)]).run P w = .ok (.tuple #[]) { w with heap := w.heap.setIfInBounds c (.chan cap buf true s r tm) } := run_close_open _ _ hc
  have hev : (Builtin.close_ ats t #[.chan (some c)]).events P w #[] = #[⟨.obj c, false, true⟩, ⟨.obj c, true, true⟩] := by rw [events_close_open _ _ hc]; rfl
  have hl : seen P b.fn ((Builtin.close_ ats t #[.chan (some c)]).events P w #[]) = #[⟨.obj c, false, true⟩, ⟨.obj c, true, true⟩] := by rw [hev, seen_sync (close_sync c)]
  simp [G, stepG, unwind, callDeferred, Frame.at, hd, dclose, invoke, builtin, hrT, GStep.after, World.setChan] at hl ⊢
  exact hl
end
section
variable {q : Bool} {P : Program} {n : NF} {W0 : GW} {Q : Exit → Act → GW → Prop} {F : Slots} {H : Heap} {L : List HProp} {ops : Array Oper} {rest : List Oper} {k : List Fr} {op : Op} {ty : TypeId} {pos : String} {aft : Array Edge} {d : Tmp} {dst : Option Tmp} {g : Option (Nat × Bool)} {K : Value → GW → Heap → List HProp → Prop}
theorem ops_defer {f : FuncId} {as : Array Operand} {at_ : Array TypeId} {vs : List Value} (hv : opvs F as.toList = some vs) (hk : Ops P ⟨n.n, dcall f vs.toArray :: n.D⟩ W0 Q F H L false ops rest k) :
    Ops P n W0 Q F H L false ops (⟨none, .defer ⟨.value (.func f), as, at_⟩, ty, pos, aft, none⟩ :: rest) k := ⟨by
  intro a w hF hS
  unfold wpListV
  rw [if_pos (by simp [Region.wanted])]
  intro Wr hsm ops' j rest' b kk cs ho hw hb hc
  have hm : as.map a.eval = vs.toArray := by
    have := (opvs_args hv).eval hF
    rw [← this, ← Array.toList_map, Array.toArray_toList]
  refine .ctl rfl (fun main w1 => stepG_defer ho hw hb rfl) (hc _ _ ⟨w, rep_xw hsm, hk.run _ w ?_ hS⟩)
  rw [hm]
  exact ⟨hF.size, by show dcall f vs.toArray :: a.defers = _; rw [hF.defs], hF.get⟩⟩
theorem stepG_deferB {main : Bool} {b : Frame} {a : Act} {kk : List Item} {cs : List Frame} {w : World} {opsA : Array Oper} {i : Nat} {restN : List Nat} {x : Operand} {at_ : Array TypeId} {c : Nat} (ho : opsA[i]? = some ⟨none, .defer ⟨.builtin .close, #[x], at_⟩, ty, pos, aft, none⟩)
    (hw : Region.wanted (⟨none, .defer ⟨.builtin .close, #[x], at_⟩, ty, pos, aft, none⟩ : Oper) (yielded opsA a.tmps) = true) (hk : b.kind ≠ .early) (hx : a.eval x = .chan (some c)) :
    stepG P main (G (b.at a (.inRegion opsA (i :: restN) :: kk)) cs) w = .go (G (b.at ⟨a.tmps, dclose at_ ty #[opConst x] c :: a.defers⟩ (.inRegion opsA restN :: kk)) cs) w #[] := by
  have hr : (execOp a.eval ⟨none, .defer ⟨.builtin .close, #[x], at_⟩, ty, pos, aft, none⟩).run P w = .ok (.defer (dclose at_ ty #[opConst x] c)) w := by
    have hx' : (#[x] : Array Operand).map a.eval = #[.chan (some c)] := by simp [hx]
    unfold execOp
    simp only [resolve, hx', dclose]
    cases x <;> simp [opConst]
  have he : (execOp a.eval ⟨none, .defer ⟨.builtin .close, #[x], at_⟩, ty, pos, aft, none⟩).events P w #[] = #[] := by
    unfold execOp
    simp [resolve]
  have hfin : (b.at ⟨a.tmps, dclose at_ ty #[opConst x] c :: a.defers⟩ (.inRegion opsA (i :: restN) :: kk)).finish undef = b.at ⟨a.tmps, dclose at_ ty #[opConst x] c :: a.defers⟩ (.inRegion opsA restN :: kk) := by
    rw [Frame.finish_at, ho]; rfl
  have hk' : (b.kind == CallKind.early) = false := by simpa using hk
  rw [stepG_oper ho hw, ← hfin]
  simp [stepG.apply, hr, he, G, Frame.at, hk', GStep.after, seen_none]
theorem ops_deferClose {x : Operand} {at_ : Array TypeId} {c : Nat} (hv : opv F x = some (.chan (some c))) (hk : Ops P ⟨n.n, dclose at_ ty #[opConst x] c :: n.D⟩ W0 Q F H L false ops rest k) :
    Ops P n W0 Q F H L false ops (⟨none, .defer ⟨.builtin .close, #[x], at_⟩, ty, pos, aft, none⟩ :: rest) k := ⟨by
  intro a w hF hS
  unfold wpListV
  rw [if_pos (by simp [Region.wanted])]
  intro Wr hsm ops' j rest' b kk cs ho hw hb hc
  refine .ctl rfl (fun main w1 => stepG_deferB ho hw hb (hF.opv hv)) (hc _ _ ⟨w, rep_xw hsm, hk.run _ w ?_ hS⟩)
  exact ⟨hF.size, by show dclose _ _ _ _ :: a.defers = _; rw [hF.defs], hF.get⟩⟩
def bodyPostD (D : List Deferred) (R : GW → Prop) (e : Exit) (a : Act) (w : GW) : Prop := (e = .normal ∨ e = .ret) ∧ a.defers = D ∧ R w
theorem outD {D : List Deferred} {R : GW → Prop} {e : Exit} (he : e = .normal ∨ e = .ret) (hD : n.D = D) (h : ∀ w, StG W0 H w L → R w) : Out P n W0 (bodyPostD D R) F H L e [] :=
  ⟨fun a w hF hS => ⟨he, hF.defs.trans hD, h w hS⟩⟩
theorem results_nil {fn : Func} (h : fn.results = #[]) (tmps : Array Value) (w : World) : (results fn tmps).run P w = .ok (.tuple #[]) w := results_none h tmps P w
theorem leave_nil {Wr : BW} {w : GW} {f : FuncId} {fn : Func} {a : Act} {todo : List Item} {c' : Frame} {cs : List Frame} {m : Heap} {s : Gh} (hf : P.funcs[f]? = some fn) (hr : fn.results = #[]) (hd : a.defers = [])
    (h : MI P kd Wr.toWorld (SB P Wr) (G (c'.finish (.tuple #[])) cs) ⟨m, s⟩) : MI P kd Wr.toWorld (SB P Wr) (G { (base f).at a todo with mode := .returning } (c' :: cs)) ⟨m, s⟩ := by
  refine .own ⟨rfl, fun w1 he hl _ => ⟨_, w1, _, m, stepG_leaveE (b := base f) rfl hd hf (results_nil hr _ _), ?_, hl, fun _ hb => .inl hb, h⟩⟩
  have : (results fn a.tmps).events P w1 #[] = #[] := events_results_none hr _ _
  rw [this]
  exact ⟨fun _ _ _ => rfl, Nat.le_refl _, rfl, rfl, rfl, fun e he => absurd (mem_seen he) (by simp), fun e he => absurd (mem_seen he) (by simp)⟩
theorem CtG.goMark {kx : Nat} {f fe : FuncId} {fn : Func} {code : Code} {vs : List Value} {A : List HProp} {Post : Value → GW → Heap → List HProp → Prop} {μ : Mark} [hb : TBody P f fn code kx] [ht : TMark P fe μ] (hr : fn.results = #[])
    (h : ∀ R, Ex P ⟨kx, []⟩ W0 (bodyPostD [dcall fe #[]] fun w => ∃ W1 c st H' B, W1.s = .co c ∧ Marks c μ st ∧ Post (.tuple #[]) (setS W1 (.co { c with st := st })) H' B ∧ StG W1 H' w (B ++ R)) (parF 0 vs) H (A ++ R) code [])
    (hl : Nat.ble vs.length kx = true := by rfl) : CtG P f vs.toArray W0 H A Post := by
  intro w R hS Wr hsm c' cs hR
  rw [enter_at vs.toArray hb.get hb.body]
  obtain ⟨fx, hx, hfx, hne⟩ := ht.ex
  have leave : ∀ (a : Act) (todo : List Item) (w1 : GW), Sm Wr w1 → a.defers = [dcall fe #[]] → (∃ W1 c st H' B, W1.s = .co c ∧ Marks c μ st ∧ Post (.tuple #[]) (setS W1 (.co { c with st := st })) H' B ∧ StG W1 H' w1 (B ++ R)) →
      MI P kd Wr.toWorld (SB P Wr) (G { (base f).at a todo with mode := .returning } (c' :: cs)) (xw w1) := by
    rintro a todo w1 hsm1 hd ⟨W1, c, st, H', B, e1, e2, e3, e4⟩
    have hws : w1.s = .co c := e4.sh.trans e1
    refine MI.special (sb_mono P Wr) ?_
    unfold xw
    rw [hws]
    refine SP.mark e2 rfl (fun w2 _ _ _ => stepG_unwind_entry (v := .tuple #[]) (evs := #[⟨.mark μ, false, true⟩]) hd hx.get hx.name hx.body hx.next hfx (by simp [Extern.Race.none_]) (by simp) (by
      intro x hx'
      simp at hx'
      subst hx'
      exact ⟨rfl, fun g h => hne g (Loc.mark.inj h)⟩)) ?_
    obtain ⟨w', q1, q2⟩ := stG_make e4 hsm1 (m := hp w1.toWorld) (.co { c with st := st }) (bnd_hp _) e4.ro e4.own (by rw [show pool (.co { c with st := st }) = pool (.co c) from rfl, ← e1]; exact e4.dj)
    exact leave_nil (w := w') hb.get hr rfl (hR _ _ ⟨w', q1, _, _, _, _, rfl, e3, q2⟩)
  refine (h R).run _ w (frOk_par hb.ntmps hl) hS Wr hsm (base f) [] (c' :: cs) (by simp [base]) fun e a' x' q => ?_
  obtain ⟨w1, hrep, he, hd, hw1⟩ := q
  rw [hrep.eq]
  rcases he with rfl | rfl
  · exact .ctl rfl (fun _ _ => stepG_end) (leave a' [] w1 hrep.sm hd hw1)
  · exact fun todo => leave a' todo w1 hrep.sm hd hw1
theorem CtG.goShut {kx : Nat} {f : FuncId} {fn : Func} {code : Code} {vs : List Value} {A : List HProp} {Post : Value → GW → Heap → List HProp → Prop} {ats : Array TypeId} {t : TypeId} {kc : Array Bool} {ch : Nat} [hb : TBody P f fn code kx] (hr : fn.results = #[])
    (h : ∀ R, Ex P ⟨kx, []⟩ W0 (bodyPostD [dclose ats t kc ch] fun w => ∃ W1 c H' B, W1.s = .snd c ∧ c.ch = ch ∧ (c.rem = [] ∨ c.off = true) ∧ c.closed = false ∧ (c.fst = true → Disj c.base c.win) ∧ Post (.tuple #[]) (setS W1 (.snd { c with closed := true, fst := false })) H' B ∧ StG W1 H' w (B ++ R)) (parF 0 vs) H (A ++ R) code [])
    (hl : Nat.ble vs.length kx = true := by rfl) : CtG P f vs.toArray W0 H A Post := by
  intro w R hS Wr hsm c' cs hR
  rw [enter_at vs.toArray hb.get hb.body]
  have leave : ∀ (a : Act) (todo : List Item) (w1 : GW), Sm Wr w1 → a.defers = [dclose ats t kc ch] → (∃ W1 c H' B, W1.s = .snd c ∧ c.ch = ch ∧ (c.rem = [] ∨ c.off = true) ∧ c.closed = false ∧ (c.fst = true → Disj c.base c.win) ∧ Post (.tuple #[]) (setS W1 (.snd { c with closed := true, fst := false })) H' B ∧ StG W1 H' w1 (B ++ R)) →
      MI P kd Wr.toWorld (SB P Wr) (G { (base f).at a todo with mode := .returning } (c' :: cs)) (xw w1) := by
    rintro a todo w1 hsm1 hd ⟨W1, c, H', B, e1, e2, e3, e4, e5, e6, e7⟩
    subst e2
    have hws : w1.s = .snd c := e7.sh.trans e1
    have hdj : Disj (hp w1.toWorld) c.base := by
      have := e7.dj
      rw [e1] at this
      simp only [pool] at this
      split at this
      · exact disj_of_join_left this
      · exact this
    refine MI.special (sb_mono P Wr) ?_
    unfold xw
    rw [hws]
    refine SP.shut (g' := G { (base f).at ⟨a.tmps, []⟩ todo with mode := .returning } (c' :: cs)) e3 e4 rfl rfl (fun w2 s r _ _ hch => stepG_unwind_close hd hch) ?_
    obtain ⟨w', q1, q2⟩ := stG_make e7 hsm1 (m := hp w1.toWorld) (.snd { c with closed := true, fst := false }) (bnd_hp _) e7.ro e7.own hdj
    exact leave_nil (w := w') hb.get hr rfl (hR _ _ ⟨w', q1, _, _, _, _, rfl, e6, q2⟩)
  refine (h R).run _ w (frOk_par hb.ntmps hl) hS Wr hsm (base f) [] (c' :: cs) (by simp [base]) fun e a' x' q => ?_
  obtain ⟨w1, hrep, he, hd, hw1⟩ := q
  rw [hrep.eq]
  rcases he with rfl | rfl
  · exact .ctl rfl (fun _ _ => stepG_end) (leave a' [] w1 hrep.sm hd hw1)
  · exact fun todo => leave a' todo w1 hrep.sm hd hw1
end
end Go.X
