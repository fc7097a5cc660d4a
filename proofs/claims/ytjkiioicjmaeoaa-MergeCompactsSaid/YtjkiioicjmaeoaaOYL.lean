/- A law's function, called first: from its walk to one good run. No program in sight. -/
import Derived.Test.YtjkiioicjmaeoaaOE3
import Derived.Test.YtjkiioicjmaeoaaOSx6
import Derived.Test.YtjkiioicjmaeoaaOYJ
set_option linter.unusedVariables false
set_option linter.unusedSimpArgs false
namespace Go.Sx
open Go Go.X
section
variable (P : Program) (n : NF) (W0 : GW) (Q : Exit → Act → GW → Prop) (F : Slots) (H H0 : Heap) (L L0 : List HProp)
end
section
variable {P : Program} {n : NF} {W0 : GW} {Q : Exit → Act → GW → Prop} {F : Slots} {H H0 : Heap} {L L0 : List HProp} {m fuel : Nat} {ops : Array Oper} {listed : Array Bool} {k : List Fr} {op : Op} {ty : TypeId} {pos : String} {aft : Array Edge} {d : Tmp} {v : Value} {vs : List Value}
section
variable {K : Value → Heap → List HProp → Prop} {dst : Option Tmp} {g : Option (Nat × Bool)} {o : Oper}
theorem OpW.sub (h : OpW P n W0 o F H L (fun v H' L' => ∃ L'', Sub L' L'' ∧ K v H' L'')) : OpW P n W0 o F H L K := fun a w next Q hF hS hn => h a w next Q hF hS fun v H' L' w' hl ⟨L'', hs, hk⟩ hst => hn v H' L'' w' hl hk (hst.sub hs)
variable {α : Type} {R : Rd α} {sz wd T : Nat} {H1 : Heap} {xs ys : List α} {y : α} {L' : List HProp} {sv xv z : Value} {us : List Value} {t : TypeId} {s x : Operand}
end
theorem ops_ixo {α : Type} {R : Rd α} {sz w T : Nat} {HS : Heap} {xs : List α} {L' : List HProp} {t : TypeId} {x y : Operand} {i : Int} {j : Nat} {kd : IntKind} {d' : Tmp} {ty' : TypeId} {pos' : String} {aft' : Array Edge} {g g' : Option (Nat × Bool)} {gv gv' : Option (Value × Bool)} {rest : List Oper} [hR : RdOk R sz] [TSl P t T] [TSz P T sz] [TAgg P T true]
    (hg : gval ops F g = some gv) [hb : GOk gv true] (hg' : gval ops F g' = some gv') [hb' : GOk gv' true] (hv : opvs F [x, y] = some [v, .int kd i]) [hi : NatOf i j] [hh : HasS L v α R sz w T HS xs L'] (hj : j < xs.length) (hk : ∀ c, R HS c (xs[j]'hj) → Ops P n W0 Q ((d', .agg c.toArray) :: F) H L false ops rest k)
    (hn : fget F d = none := by rfl) (hd : Nat.blt d n = true := by rfl) (hd' : Nat.blt d' n = true := by rfl) : Ops P n W0 Q F H L false ops (⟨some d, .indexAddr t x y, ty, pos, aft, g⟩ :: ⟨some d', .load T (.tmp d), ty', pos', aft', g'⟩ :: rest) k := by
  obtain ⟨rfl⟩ := hi
  obtain ⟨hvx, hvy⟩ := opvs2 hv
  refine ops_open (σ := List Value) (B := fun cs => [own T sz v xs.length cs]) (p := fun cs => RL R HS cs xs ∧ xs.length * w ≤ cap47) hh.has (fun x ⟨cs, a, b⟩ => ⟨cs, a, ⟨x, Heap.empty, b, trivial, fun _ => .inr rfl, .refl _, fun _ _ h => by simp [Heap.empty] at h⟩⟩) fun cs ⟨a, hsm⟩ => ?_
  obtain ⟨c, r, hcr, hc⟩ := a.get hj
  refine ops_open (σ := Nat × Nat × List Value) (B := fun s => [row s.1 T (cs ++ s.2.2)]) (p := fun s => v = .slice (some ⟨s.1, 0, none⟩) xs.length s.2.1 ∧ xs.length ≤ s.2.1 ∧ s.2.1 ≤ 9223372036854775807 ∧ cs.length = xs.length * sz ∧ (cs ++ s.2.2).length = s.2.1 * sz) .here (fun h ho => own_open (by omega) ho) fun ⟨b, cap, sp⟩ ⟨he, h5, h6, h7, h8⟩ => ?_
  simp only at he h5 h6 h7 h8
  subst he
  refine ops_pure hg hd (op_indexAddr (i := (j : Int)) hvx hvy (by omega) (by omega)) ?_
  refine ops_pure (v := .agg c.toArray) (gval_new hn hg') hd' (op_loadAt (b := b) (off := 0 + (j : Int).toNat * sz) (cs := cs ++ sp) (by simp [opv, fget]) .here (at_of_drop (by simpa using hcr)) (hR.len hc)) ?_
  refine ops_fsub (fsub_new hn) (ops_L ?_ (hk c hc))
  refine Sub.trans ?_ hh.has.from
  intro h hb
  obtain ⟨h1, h2, p, q, dd, l1, l2⟩ := own_shut (R := L') h7 h5 h6 h8 h hb
  exact ⟨h1, h2, ⟨cs, ⟨a, hsm⟩, p⟩, q, dd, l1, l2⟩
end
end Go.Sx
namespace Go.Sx
open Go Go.X
section
variable {α : Type} {R : Rd α} {sz : Nat} {H : Heap}
end
section
variable {P : Program} {n : NF} {W0 : GW} {Q : Exit → Act → GW → Prop} {F : Slots} {H H0 : Heap} {L L0 : List HProp} {m fuel : Nat} {ops : Array Oper} {listed : Array Bool} {k : List Fr} {op : Op} {ty ty' : TypeId} {pos pos' : String} {aft aft' : Array Edge} {d : Tmp} {v : Value} {vs : List Value} {rest : List Oper} {g : Option (Nat × Bool)} {gv : Option (Value × Bool)}
end
end Go.Sx
namespace Go.Sx
open Go Go.X Go.ChangeShapes Go.WideShapes Go.ChangeAt Go.RowKit
theorem st_below {W w' : World} (h1 : w'.os = W.os) (h2 : w'.tape = W.tape) (h3 : w'.output = W.output) (h : (rp W).le (rp w')) : Below W.heap.size W w' := by
  refine ⟨h1, h2, h3, ?_, fun k hk => ?_⟩
  · refine Nat.le_of_not_lt fun hlt => ?_
    have : rp W w'.heap.size = some W.heap[w'.heap.size] := by simp [rp, hlt]
    have := (Array.getElem?_eq_some_iff.1 (h _ _ this)).1
    omega
  · have e : rp W k = some W.heap[k] := by simp [rp, hk]
    exact (h k _ e).trans e.symm
section
variable {H : Type} {enc : TypeId × Value → H} {P : Program} {W W' : World}
def tysOk (P : Program) (ts : List TypeId) : Bool := ts.all fun t => P.readableRec t && decide (t < P.types.size)
theorem trodAll_below (hl : laidOutB P = true) (hB : Below W.heap.size W W') : ∀ {ts : List TypeId} {vs : List Value} {ds : List (DataW H)} {ps : List MemPlace}, tysOk P ts = true →
    DataW.TrodAll enc P W 0 (fun _ => true) true ts vs ds ps → (∀ x ∈ ps, x.block < W.heap.size) → DataW.TrodAll enc P W' 0 (fun b => decide (b < W.heap.size)) true ts vs ds ps
  | [], vs, ds, ps, _, h, _ => by
    obtain ⟨rfl, rfl, rfl⟩ := trodAll_nil h
    exact rfl
  | t :: ts, vs, ds, ps, ht, h, hlt => by
    obtain ⟨v, vs', d, ds', p, q, rfl, rfl, rfl, h1, h2⟩ := trodAll_cons h
    simp only [tysOk, List.all_cons, Bool.and_eq_true, decide_eq_true_eq] at ht
    exact ⟨p, q, Below.trod hl ht.1.1 ht.1.2 h1 hB (fun x hx => hlt x (List.mem_append_left _ hx)), trodAll_below hl hB (by simpa [tysOk] using ht.2) h2 (fun x hx => hlt x (List.mem_append_right _ hx)), rfl⟩
theorem post_law {f : Func} {s : ChangeSpec} {args : Array Value} {ds : List (DataW H)} {before : List MemPlace} {v : Value} (hl : laidOutB P = true) (hts : tysOk P f.params.toList = true) (hv : s.vars = [])
    (hW : DataW.Whole enc P f.params.toList s.vars false W args.toList ds [] before) (hB : Below W.heap.size W W')
    (hargs : (s.fn H (ds ++ [])).args = ds) (hvars : (s.fn H (ds ++ [])).vars = [])
    (hres : ∀ b sp hd, DataW.TrodAll enc P W' b sp hd f.resultTypes.toList (v.resultList f.resultTypes.size) (s.fn H (ds ++ [])).results []) :
    s.post enc P f false true false false W args v W' := by
  have hlt := hW.lt
  have hW2 := hW
  obtain ⟨p, q, hA, hV, rfl, _, _⟩ := hW2
  rw [hv] at hV
  obtain ⟨-, rfl⟩ := trodVars_none hV
  refine ⟨ds, [], _, [], p, [], hW, hres _ _ _, ?_, ?_, hB.frame _, fun h => by cases h⟩
  · rw [hargs]; exact trodAll_below hl hB hts hA (fun x hx => hlt x (List.mem_append_left _ hx))
  · rw [hvars, hv]; exact rfl
theorem arg_rds {α : Type} {R : Rd α} {t : TypeId} (hR : Rds P t R) {v : Value} {d : DataW H} {ps : List MemPlace} (h : DataW.Trod enc P W 0 (fun _ => true) true t v d ps) (hw : Wts P t d) : ∃ y, R (rp W) v.cells.toList y := by
  obtain ⟨fuel, hf⟩ := h
  exact hR hf hw
theorem wts_all {ts : List TypeId} {ds : List (DataW H)} (h : (DataW.weightsEach P ts ds).all (· ≤ reachBytes) = true) {i : Nat} {t : TypeId} {d : DataW H} (ht : ts[i]? = some t) (hd : ds[i]? = some d) : Wts P t d := fun x hx => by
  have := (List.all_eq_true.1 h) x (mem_weightsEach ht hd hx)
  simpa using this
theorem law_end {f : Func} {s : ChangeSpec} {args : Array Value} {ds : List (DataW H)} {before : List MemPlace}
    (hl : laidOutB P = true) (hts : tysOk P f.params.toList = true) (hv : s.vars = []) (hW : DataW.Whole enc P f.params.toList s.vars false W args.toList ds [] before)
    (hargs : (s.fn H (ds ++ [])).args = ds) (hvars : (s.fn H (ds ++ [])).vars = []) (hres : ∀ b sp hd, DataW.TrodAll enc P W' b sp hd f.resultTypes.toList ((Value.bool true).resultList f.resultTypes.size) (s.fn H (ds ++ [])).results [])
    (h1 : W'.os = W.os) (h2 : W'.tape = W.tape) (h3 : W'.output = W.output) (h : (rp W).le (rp W')) : s.post enc P f false true false false W args (.bool true) W' :=
  post_law hl hts hv hW (st_below h1 h2 h3 h) hargs hvars hres
end
end Go.Sx
namespace Go.Sx
open Go Go.X
section
variable {q : Bool} {P : Program} {n : NF} {W0 : GW} {Q : Exit → Act → GW → Prop} {F : Slots} {H : Heap} {L : List HProp} {ops : Array Oper} {rest : List Oper} {k : List Fr} {ty : TypeId} {pos : String} {aft : Array Edge} {d : Tmp} {v : Value} {g : Option (Nat × Bool)} {gv : Option (Value × Bool)}
theorem ops_stall {x y : Operand} {t : TypeId} {b T m : Nat} {cs us : List Value} {R : List HProp} [TSz P t m] (hv : opvs F [x, y] = some [.pointer (some ⟨b, 0, none⟩), .agg us.toArray]) [h : HasRow L b T cs R] (hl : us.length = m) (hcs : cs.length = m) (h1 : us.all (·.oneCell') = true)
    (hk : Ops P n W0 Q F H (row b T us :: R) false ops rest k) : Ops P n W0 Q F H L false ops (⟨none, .store t x y, ty, pos, aft, none⟩ :: rest) k := by
  refine ops_n (op_storeAt (off := 0) (vs := us) (opvs2 hv).1 (opvs2 hv).2 rfl hl h1 h.has (by omega) ?_)
  rw [List.take_zero, List.nil_append, Nat.zero_add, List.drop_eq_nil_of_le (by omega), List.append_nil]
  exact hk
theorem ops_ldall {x : Operand} {t : TypeId} {b T m : Nat} {us : List Value} {R : List HProp} [TAgg P t true] [TSz P t m] (hg : gval ops F g = some gv) [hb : GOk gv true] (hx : opv F x = some (.pointer (some ⟨b, 0, none⟩))) [h : HasRow L b T us R] (hl : us.length = m)
    (hk : Ops P n W0 Q ((d, .agg us.toArray) :: F) H L q ops rest k) (hd : Nat.blt d n = true := by rfl) : Ops P n W0 Q F H L q ops (⟨some d, .load t x, ty, pos, aft, g⟩ :: rest) k :=
  ops_pure hg hd (op_loadAt (off := 0) hx h.has (At.whole us) hl) hk
theorem ops_ldat {x : Operand} {t : TypeId} {b off T m : Nat} {cs us : List Value} {R : List HProp} [TAgg P t true] [TSz P t m] (hg : gval ops F g = some gv) [hb : GOk gv true] (hx : opv F x = some (.pointer (some ⟨b, off, none⟩))) [h : HasRow L b T cs R] (ha : At cs off us) (hl : us.length = m)
    (hk : Ops P n W0 Q ((d, .agg us.toArray) :: F) H L q ops rest k) (hd : Nat.blt d n = true := by rfl) : Ops P n W0 Q F H L q ops (⟨some d, .load t x, ty, pos, aft, g⟩ :: rest) k :=
  ops_pure hg hd (op_loadAt hx h.has ha hl) hk
end
end Go.Sx
namespace Go.Sx
open Go Go.X
section
variable {P : Program} {x y : Operand} {T T' : TypeId} [TBo P T]
end
section
variable {P : Program} {n : NF} {W0 : GW} {Q : Exit → Act → GW → Prop} {F : Slots} {H H0 : Heap} {L L0 : List HProp} {m fuel : Nat} {ops : Array Oper} {listed : Array Bool} {k : List Fr} {op : Op} {ty : TypeId} {pos : String} {aft : Array Edge} {d : Tmp} {v : Value} {vs : List Value}
end
end Go.Sx
namespace Go.X
open Go Go.Sx Go.Conc Go.ConcN
section
variable {P : Program} {Post : Value → World → Prop} {W0 : World}
theorem stepG_done {main : Bool} {b : Frame} {a : Act} {w : World} {fn : Func} {todo : List Item} {v : Value} (hm : main = true) (hn : b.kind = .normal) (hd : a.defers = []) (hf : P.funcs[b.fn]? = some fn) (hr : (results fn a.tmps).run P w = .ok v w) (hi : P.inits.idxOf? b.fn = none) :
    stepG P main (G { b.at a todo with mode := .returning } []) w = .ended (.done v) w (seen P b.fn ((results fn a.tmps).events P w #[])) := by
  subst hm
  simp [G, stepG, unwind, doReturn, Frame.at, hn, hd, hf, hr, hi, GStep.after]
theorem mi_root {f : FuncId} {fn : Func} {c : Code} {args : Array Value} {x : XW Gh} (hf : P.funcs[f]? = some fn) (hb : fn.body = some c) (hi : P.inits.idxOf? f = none)
    (h : c.wpX P kd W0 (SP P Post W0) (fun e a x => (e = .normal ∨ e = .ret) ∧ a.defers = [] ∧ x.s = .solo ∧ ∀ w, Env W0 w → x.m.le (rp w) → ∃ v, (results fn a.tmps).run P w = .ok v w ∧ (∀ e ∈ (results fn a.tmps).events P w #[], Mine x.m w.heap.size e ∧ EvLow w.heap.size e) ∧ Post v w)
      { tmps := args ++ Array.replicate (fn.ntmps - args.size) undef, defers := [] } x) : MIp P Post W0 (G (Frame.enter P f args .normal) []) x := by
  rw [enter_at args hf hb]
  have leave : ∀ (a : Act) (x : XW Gh) (todo : List Item), a.defers = [] → x.s = .solo → (∀ w, Env W0 w → x.m.le (rp w) → ∃ v, (results fn a.tmps).run P w = .ok v w ∧ (∀ e ∈ (results fn a.tmps).events P w #[], Mine x.m w.heap.size e ∧ EvLow w.heap.size e) ∧ Post v w) →
      MIp P Post W0 (G { (base f).at a todo with mode := .returning } []) x := by
    intro a x todo hd hs hx
    obtain ⟨m, s⟩ := x
    replace hs : s = .solo := hs
    subst hs
    refine MI.special (sp_mono P Post W0) (.fin rfl fun w he hl => ?_)
    obtain ⟨v, h1, h2, h3⟩ := hx w he hl
    exact ⟨v, _, stepG_done (b := base f) rfl rfl hd hf h1 hi, fun e he => h2 e (mem_seen he), h3⟩
  refine h (base f) [] [] (by simp [base]) fun e a' x' q => ?_
  obtain ⟨he, hd, hs, hx⟩ := q
  rcases he with rfl | rfl
  · exact .ctl rfl (fun _ _ => stepG_end) (leave a' x' [] hd hs hx)
  · exact fun todo => leave a' x' todo hd hs hx
def startCf (g : Goroutine) (W : World) : Cf :=
  ⟨#[g], W, none, #[], 0, .run, fun _ => (g, ⟨Heap.empty, .solo⟩), fun _ => .Q 0, ⟨0, fun i => if i = 0 then rp W else Heap.empty, Heap.empty, Heap.empty, 0, fun _ => False, fun _ => False, fun _ => False, fun _ _ => False, fun _ _ => False⟩⟩
theorem start_inv {g : Goroutine} {W : World} (hmi : MIp P Post W0 g ⟨rp W, .solo⟩) (he : Env W0 W) : Inv P Post W0 (startCf g W) g ⟨rp W, .solo⟩ := by
  have hr := mi_running hmi
  refine ⟨⟨rfl, he, ⟨g, rfl, .run (.refl hr)⟩, fun i pk h1 h2 => ?_, fun i q h1 h2 => ?_, fun i h1 h2 => ?_, rfl, fun i h1 h2 => ?_, rfl, rfl, fun i h1 h2 => ?_, fun i h1 h2 => ?_, fun i => ⟨fun h => h.elim, fun ⟨a, b, c⟩ => c⟩, fun i => ⟨fun h => h.elim, fun ⟨a, b, c⟩ => c trivial⟩, ⟨fun a b x hne hx => ?_, fun a x hx => ?_, fun x hx => absurd rfl hx, fun x hx => absurd rfl hx, fun a h => h, fun x h => h.elim, fun a x h => h⟩, fun i => ?_, fun b o h => (by cases h), fun b o h => (by cases h), ?_⟩, ⟨fun i a b => trivial, rfl, rfl, fun i r h => h⟩⟩
  · exact absurd (Nat.le_trans h1 h2) (show ¬ 1 ≤ 0 by decide)
  · exact absurd (Nat.le_trans h1 h2) (show ¬ 1 ≤ 0 by decide)
  · exact absurd (Nat.le_trans h1 h2) (show ¬ 1 ≤ 0 by decide)
  · exact absurd (Nat.le_trans h1 h2) (show ¬ 1 ≤ 0 by decide)
  · exact absurd (Nat.le_trans h1 h2) (show ¬ 1 ≤ 0 by decide)
  · show (if i = 0 then rp W else Heap.empty) = Heap.empty
    rw [if_neg (by omega)]
  · show (if b = 0 then rp W else Heap.empty) x = none
    replace hx : (if a = 0 then rp W else Heap.empty) x ≠ none := hx
    by_cases e : a = 0
    · rw [if_neg (by omega)]; rfl
    · rw [if_neg e] at hx; exact absurd rfl hx
  · replace hx : (if a = 0 then rp W else Heap.empty) x ≠ none := hx
    by_cases e : a = 0
    · rw [if_pos e] at hx
      refine ⟨rfl, rfl, id, ?_⟩
      cases h : rp W x with
      | none => exact absurd h hx
      | some o => exact (Array.getElem?_eq_some_iff.1 h).1
    · rw [if_neg e] at hx; exact absurd rfl hx
  · show (if i = 0 then rp W else Heap.empty).le (rp W)
    split
    · exact .refl _
    · intro b o h; cases h
  · have no : ∀ {i : Nat} {a : Touch}, touchAt #[] i = some a → False := fun {i a} h => by simp [touchAt, Trace.act?] at h
    refine ⟨fun said ⟨i, j, _, ⟨a, b, ha, _⟩, _⟩ => no ha, fun op h => by simp [startCf] at h, fun op h => by simp [startCf] at h, fun g i a b ha => (no ha).elim, fun g i a b _ ha => (no ha).elim, fun i a b ha => (no ha).elim, fun g i a b _ ha => (no ha).elim, fun i a b ha => (no ha).elim, fun i a b ha => (no ha).elim, fun i a ha => (no ha).elim, fun i g h => by simp [startCf, Trace.g?] at h⟩
theorem good_start {g : Goroutine} {W : World} (hmi : MIp P Post W0 g ⟨rp W, .solo⟩) (he : Env W0 W) :
    ∃ n last o w' t', runNT P (n + 1) (solo g W) #[] = (.ended o w', t') ∧ runN P n (solo g W) = .next last ∧ step P last = .ended o w' ∧ Conc.Good P Post last o w' t' :=
  company_ends hmi (startCf g W) (start_inv hmi he)
end
end Go.X
namespace Go.X
open Go Go.Sx Go.Conc Go.ConcN
theorem frOk_enter {n : Nat} {fn : Func} {vs : List Value} {F : Slots} (hn : fn.ntmps = n) (hF : Params 0 vs F) (hl : Nat.ble vs.length n = true) :
    FrOk ⟨n, []⟩ { tmps := vs.toArray ++ Array.replicate (fn.ntmps - vs.toArray.size) undef, defers := [] } F := by
  have hl' : vs.length ≤ n := by simpa using hl
  refine ⟨by simp [hn]; omega, rfl, ?_⟩
  have key : ∀ i vs F, Params i vs F → ∀ t v, fget F t = some v → i ≤ t ∧ vs[t - i]? = some v := by
    intro i vs F hp
    induction hp with
    | nil => intro t v h; simp [fget] at h
    | @cons i v vs F _ ih =>
      intro t u h
      rw [fget_cons] at h
      by_cases e : i = t
      · subst e; simp at h; subst h; simp
      · simp only [e, if_false] at h
        have h1 := ih t u h
        refine ⟨by omega, ?_⟩
        have h2 : t - i = (t - (i + 1)) + 1 := by omega
        rw [h2]; simpa using h1.2
  intro t v ht
  have h1 := key 0 vs F hF t v ht
  have h2 : vs[t]? = some v := by simpa using h1.2
  have h3 : t < vs.length := (List.getElem?_eq_some_iff.1 h2).1
  rw [Array.getElem?_append]
  have h4 : vs[t] = v := by rw [List.getElem?_eq_getElem h3] at h2; exact Option.some.inj h2
  simp [h3, h4]
def CtR (P : Program) (f : FuncId) (vs : Array Value) (W0 : GW) (H : Heap) (A : List HProp) (Post : Value → Heap → List HProp → Prop) : Prop :=
  ∀ (w : GW) R, StG W0 H w (A ++ R) → w.s = .solo → P.inits.idxOf? f = none → ∀ Wr : BW, Sm Wr w → (∀ r H' B, H.le H' → Post r H' B → ∀ w1, Env Wr.toWorld w1 → H'.le (rp w1) → Wr.post r w1) →
    MIp P Wr.post Wr.toWorld (G (Frame.enter P f vs .normal) []) (xw w)
theorem CtR.go {P : Program} {n : Nat} {W0 : GW} {H : Heap} {f : FuncId} {fn : Func} {c : Code} {vs : List Value} {A : List HProp} {Post : Value → Heap → List HProp → Prop} [hb : TBody P f fn c n]
    (h : ∀ R, Ex P ⟨n, []⟩ W0 (bodyPostV P fn (RetOk W0 H Post R)) (parF 0 vs) H (A ++ R) c []) (hl : Nat.ble vs.length n = true := by rfl) : CtR P f vs.toArray W0 H A Post := by
  intro w R hS hs hi Wr hsm hp
  refine mi_root hb.get hb.body hi (wpX_mono ((h R).run _ w (frOk_enter hb.ntmps (parF_params 0 vs) hl) hS Wr hsm) ?_)
  rintro e a x ⟨w', hr, he, hd, v, hrd, r, H', B, er, hle, hpo, hS'⟩
  cases er
  refine ⟨he, hd, ?_, fun w1 hen hl1 => ?_⟩
  · rw [← hr.s, hS'.sh, ← hS.sh]; exact hs
  · have e2 := hr.eq
    subst e2
    obtain ⟨k1, k2⟩ := hrd Wr hr.sm w1 hen hl1
    exact ⟨v, k1, k2, hp v H' B hle hpo w1 hen (hS'.ro.trans hl1)⟩
def startG (W : World) (post : Value → World → Prop) : GW := { W with output := #[], post := post, s := .solo }
theorem hp_start (W : World) (post : Value → World → Prop) : hp (startG W post).toWorld = rp W := by
  funext b
  simp [hp, hid, startG, rp]
theorem good_law {P : Program} {f : FuncId} {vs : Array Value} {Post : Value → Heap → List HProp → Prop} {W : World} {post : Value → World → Prop} (h : CtR P f vs (startG W post) (rp W) [] Post) (hi : P.inits.idxOf? f = none)
    (hp : ∀ r H' B, (rp W).le H' → Post r H' B → ∀ w1, Env W w1 → H'.le (rp w1) → post r w1) :
    ∃ n last o w' t', runNT P (n + 1) (Conc.solo (G (Frame.enter P f vs .normal) []) W) #[] = (.ended o w', t') ∧ runN P n (Conc.solo (G (Frame.enter P f vs .normal) []) W) = .next last ∧ step P last = .ended o w' ∧ Conc.Good P post last o w' t' := by
  have hst : StG (startG W post) (rp W) (startG W post) ([] ++ []) := by
    refine ⟨⟨⟨rfl, rfl, rfl, fun p hp => by simp [startG] at hp⟩, ?_, Heap.empty, trivial, fun b o h => (by cases h), fun b => .inr rfl⟩, rfl, rfl, fun b => .inr rfl⟩
    rw [hp_start]; exact .refl _
  have := h (startG W post) [] hst rfl hi ⟨W, post⟩ ⟨rfl, rfl, rfl⟩ (fun r H' B h1 h2 w1 h3 h4 => hp r H' B h1 h2 w1 h3 h4)
  unfold xw at this
  rw [hp_start] at this
  exact good_start (W0 := W) (Post := post) this ⟨rfl, rfl, rfl⟩
end Go.X
