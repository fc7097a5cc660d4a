/- The operations that only read and reckon, gathered, so that a walk finds the right rule by itself. No program in sight. -/
import Derived.Test.YtjkiioicjmaeoaaQSx3
set_option linter.unusedVariables false
set_option linter.unusedSimpArgs false
namespace Go.Sx
open Go Go.X
theorem CallsV.mono {P : Program} {f : FuncId} {args : Array Value} {w : GW} {R R' : Ending → GW → Prop} (h : CallsV P f args w R) (hr : ∀ e w', R e w' → R' e w') : CallsV P f args w R' :=
  fun Wr h1 c cs hc => h Wr h1 c cs fun v x' ⟨w', r, q⟩ => hc v x' ⟨w', r, hr _ _ q⟩
def Reads (P : Program) (fn : Func) (a : Act) (w : GW) (v : Value) : Prop :=
  ∀ Wr : BW, Sm Wr w → ∀ w1, Env Wr.toWorld w1 → (hp w.toWorld).le (rp w1) → (results fn a.tmps).run P w1 = .ok v w1 ∧ ∀ e ∈ (results fn a.tmps).events P w1 #[], Mine (hp w.toWorld) w1.heap.size e ∧ EvLow w1.heap.size e
def bodyPostV (P : Program) (fn : Func) (R : Ending → GW → Prop) (e : Exit) (a : Act) (w : GW) : Prop := (e = .normal ∨ e = .ret) ∧ a.defers = [] ∧ ∃ v, Reads P fn a w v ∧ R (.returned v) w
theorem callsV_of {P : Program} {f : FuncId} {fn : Func} {c : Code} {args : Array Value} {w : GW} {R : Ending → GW → Prop} (hf : P.funcs[f]? = some fn) (hb : fn.body = some c)
    (h : c.wpV P (bodyPostV P fn R) { tmps := args ++ Array.replicate (fn.ntmps - args.size) undef, defers := [] } w) : CallsV P f args w R := fun Wr h1 =>
  callsX_of hf hb (wpX_mono (h Wr h1) fun e a x ⟨w', r, he, hd, v, hrun, hR⟩ => ⟨he, hd, fun w1 hen hl => by
    have e := r.eq
    subst e
    obtain ⟨k1, k2⟩ := hrun Wr r.sm w1 hen hl
    exact ⟨v, k1, k2, w', r, hR⟩⟩)
theorem reads_of {P : Program} {fn : Func} {a : Act} {w : GW} {v : Value} {W0 : GW} {H : Heap} {L : List HProp} (hS : StG W0 H w L) (h : ∀ {W1 : World} w, St W1 H w L → (results fn a.tmps).run P w = .ok v w) : Reads P fn a w v := by
  intro Wr h1 w1 he hl
  obtain ⟨x, H', L', w1', w', hr, ⟨rfl, hw⟩, hk, _⟩ := run_local (P := P) (calm_results fn a.tmps) (R := fun x H' L' => x = v ∧ True) (fun {W1} w hS => ⟨v, H, L, w, h w hS, ⟨rfl, trivial⟩, hS⟩) hS.st h1.os h1.tape w1 he hl
  have hu := h _ (hS.st.to (he.os.trans h1.os) (he.tape.trans h1.tape) hl)
  obtain ⟨u, hu1, hu2⟩ := run_out _ _ (calm_results fn a.tmps) _ _ _ hu
  rw [hr] at hu1
  cases hu1
  have : w1' = w1 := by
    have ho := hk.output
    cases w1; cases w1'
    simp only [outW, World.mk.injEq] at hu2 ho ⊢
    simp_all
  subst this
  exact ⟨hr, fun e he => ⟨hk.mine e he, hk.low e he⟩⟩
def Ct (P : Program) (f : FuncId) (vs : Array Value) (W0 : GW) (H : Heap) (A : List HProp) (Post : Value → Heap → List HProp → Prop) : Prop :=
  ∀ (w : GW) R, StG W0 H w (A ++ R) → CallsV P f vs w fun e w' => ∃ r H' B, e = .returned r ∧ H.le H' ∧ Post r H' B ∧ StG W0 H' w' (B ++ R)
theorem Ct.mono {P : Program} {f : FuncId} {vs : Array Value} {W0 : GW} {H : Heap} {A : List HProp} {Post Post' : Value → Heap → List HProp → Prop} (h : Ct P f vs W0 H A Post)
    (hp : ∀ r H' B, H.le H' → Post r H' B → Post' r H' B) : Ct P f vs W0 H A Post' :=
  fun w R hS => CallsV.mono (h w R hS) fun _ _ ⟨r, H', B, a, b, c, d⟩ => ⟨r, H', B, a, b, hp r H' B b c, d⟩
inductive Args (F : Slots) : List Operand → List Value → Prop
  | nil : Args F [] []
  | cons {x : Operand} {v : Value} {l : List Operand} {vs : List Value} : opv F x = some v → Args F l vs → Args F (x :: l) (v :: vs)
theorem Args.eval {n : NF} {F : Slots} {l : List Operand} {vs : List Value} (h : Args F l vs) {a : Act} (hF : FrOk n a F) : l.map a.eval = vs := by
  induction h with
  | nil => rfl
  | cons hx _ ih => simp [hF.opv hx, ih]
inductive Params : Nat → List Value → Slots → Prop
  | nil {i : Nat} : Params i [] []
  | cons {i : Nat} {v : Value} {vs : List Value} {F : Slots} : Params (i + 1) vs F → Params i (v :: vs) ((i, v) :: F)
def RetOk (W0 : GW) (H : Heap) (Post : Value → Heap → List HProp → Prop) (R : List HProp) : Ending → GW → Prop :=
  fun e w' => ∃ r H' B, e = .returned r ∧ H.le H' ∧ Post r H' B ∧ StG W0 H' w' (B ++ R)
section
variable {P : Program} {n : NF} {W0 : GW} {F : Slots} {H : Heap} {L : List HProp} {K : Value → Heap → List HProp → Prop} {dst : Option Tmp} {ty : TypeId} {pos : String} {aft : Array Edge} {g : Option (Nat × Bool)}
theorem op_callv {f : FuncId} {x : Operand} {l : List Operand} {at_ : Array TypeId} {vs cap fst : List Value} {A R : List HProp} {Post : Value → Heap → List HProp → Prop} [hf : TFn P f]
    (hx : opv F x = some (.func (.func f) fst.toArray cap.toArray)) (ha : Args F l vs)
    (hs : Ct P f (fst ++ vs ++ cap).toArray W0 H A Post) (ht : Take L A R) (hk : ∀ r H' B, H.le H' → Post r H' B → K r H' (B ++ R)) :
    OpW P n W0 ⟨dst, .call ⟨.value x, l.toArray, at_⟩, ty, pos, aft, g⟩ F H L K := by
  intro a w next Q hF hS hn
  have hm := ha.eval hF
  refine wpV_of_yV (callV_of (f := f) (args := (fst ++ vs ++ cap).toArray) (fun w => ?_) (fun w => ?_) (CallsV.mono (hs w R (hS.sub ht.to)) ?_))
  · simp only [execOp, resolve, hF.opv hx]
    simp [Deferred.ofValue, invoke, hf.run, hm]
  · simp only [execOp, resolve, hF.opv hx]
    simp [Deferred.ofValue, invoke, hm, hf.events]
  · rintro e w' ⟨r, H', B, rfl, hl, hp, hs'⟩
    exact ⟨r, rfl, hn r H' (B ++ R) w' hl (hk r H' B hl hp) hs'⟩
theorem yv_call {f : FuncId} {l : List Operand} {at_ : Array TypeId} {vs : List Value} {A R : List HProp} {v : Value} [hf : TFn P f] (ha : Args F l vs)
    (hs : Ct P f vs.toArray W0 H A fun r H' B => r = v ∧ H' = H ∧ B = A) (ht : Take L A R) (hb : Sub (A ++ R) L) {a : Act} {w : GW} (hF : FrOk n a F) (hS : StG W0 H w L) :
    (⟨dst, .call ⟨.value (.func f), l.toArray, at_⟩, ty, pos, aft, g⟩ : Oper).yV P a.eval w fun v' w' => v' = v ∧ StG W0 H w' L := by
  have hm := ha.eval hF
  refine callV_of (f := f) (args := vs.toArray) (fun w => ?_) (fun w => ?_) (CallsV.mono (hs w R (hS.sub ht.to)) ?_)
  · simp only [execOp, resolve, Act.eval]
    simp [Deferred.ofValue, invoke, hf.run, hm]
  · simp only [execOp, resolve, Act.eval]
    simp [Deferred.ofValue, invoke, hm, hf.events]
  · rintro e w' ⟨r, H', B, rfl, hl, ⟨rfl, rfl, rfl⟩, hs'⟩
    exact ⟨r, rfl, rfl, hs'.sub hb⟩
theorem op_call {f : FuncId} {l : List Operand} {at_ : Array TypeId} {vs : List Value} {A R : List HProp} {Post : Value → Heap → List HProp → Prop} [hf : TFn P f] (ha : Args F l vs)
    (hs : Ct P f vs.toArray W0 H A Post) (ht : Take L A R) (hk : ∀ r H' B, H.le H' → Post r H' B → K r H' (B ++ R)) :
    OpW P n W0 ⟨dst, .call ⟨.value (.func f), l.toArray, at_⟩, ty, pos, aft, g⟩ F H L K :=
  op_callv (fst := []) (cap := []) (x := .func f) rfl ha (by simpa using hs) ht hk
end
section
variable {P : Program} {n : NF} {W0 : GW} {F : Slots} {H H0 : Heap} {L : List HProp} {Q : Exit → Act → GW → Prop}
theorem Ct.of_body {f : FuncId} {fn : Func} {c : Code} {vs : List Value} {A : List HProp} {Post : Value → Heap → List HProp → Prop} (hf : P.funcs[f]? = some fn) (hb : fn.body = some c) (hn : fn.ntmps = n.n) (hD : n.D = [])
    (hF : Params 0 vs F) (hl : Nat.ble vs.length n = true) (h : ∀ R, Sat n W0 F H (A ++ R) (c.wpV P (bodyPostV P fn (RetOk W0 H Post R)))) : Ct P f vs.toArray W0 H A Post := by
  intro w R hS
  refine callsV_of hf hb (h R _ w ?_ hS)
  have hl' : vs.length ≤ n := by simpa using hl
  refine ⟨by simp [hn]; omega, hD.symm, ?_⟩
  have key : ∀ i vs F, Params i vs F → ∀ t v, fget F t = some v → i ≤ t ∧ vs[t - i]? = some v := by
    intro i vs F hp
    induction hp with
    | nil => intro t v h; simp [fget] at h
    | @cons i v vs F _ ih =>
      intro t u h
      rw [fget_cons] at h
      by_cases e : i = t
      · subst e; simp at h; subst h; simp
      · simp only [e, if_false] at h
        have h1 := ih t u h
        refine ⟨by omega, ?_⟩
        have h2 : t - i = (t - (i + 1)) + 1 := by omega
        rw [h2]; simpa using h1.2
  intro t v ht
  have h1 := key 0 vs F hF t v ht
  have h2 : vs[t]? = some v := by simpa using h1.2
  have h3 : t < vs.length := (List.getElem?_eq_some_iff.1 h2).1
  rw [Array.getElem?_append]
  have h4 : vs[t] = v := by rw [List.getElem?_eq_getElem h3] at h2; exact Option.some.inj h2
  simp [h3, h4]
inductive ResR (P : Program) (F : Slots) (L : List HProp) : List ResultVar → List Value → Prop
  | nil : ResR P F L [] []
  | tmp {t : Tmp} {v : Value} {rs : List ResultVar} {vs : List Value} : fget F t = some v → ResR P F L rs vs → ResR P F L (.tmp t :: rs) (v :: vs)
  | cell1 {a : Tmp} {t T : TypeId} {b off : Nat} {cs : List Value} {v : Value} {R : List HProp} {rs : List ResultVar} {vs : List Value} : TAgg P t false → fget F a = some (.pointer (some ⟨b, off, none⟩)) →
      Has L (row b T cs) R → cs[off]? = some v → ResR P F L rs vs → ResR P F L (.cell a t :: rs) (v :: vs)
  | cellN {a : Tmp} {t T : TypeId} {k b off : Nat} {cs us : List Value} {R : List HProp} {rs : List ResultVar} {vs : List Value} : TAgg P t true → TSz P t k → fget F a = some (.pointer (some ⟨b, off, none⟩)) →
      Has L (row b T cs) R → Pick cs off k us → ResR P F L rs vs → ResR P F L (.cell a t :: rs) (.agg us.toArray :: vs)
def tup : List Value → Value
  | [v] => v
  | vs => .tuple vs.toArray
def resOf (tmps : Array Value) : ResultVar → Sem Value
  | .tmp t => pure (tmps.getD t undef)
  | .cell x t => do loadVar t (← asAddr (tmps.getD x undef))
theorem ResR.run {rs : List ResultVar} {vs : List Value} (h : ResR P F L rs vs) {a : Act} {W1 w : World} (hF : FrOk n a F) (hS : St W1 H w L) :
    (rs.mapM (resOf a.tmps)).run P w = .ok vs w := by
  induction h with
  | nil => rfl
  | @tmp t v rs vs ht _ ih =>
    have h0 : (resOf a.tmps (.tmp t)).run P w = .ok v w := by simp [resOf, hF.get _ _ ht]
    simp [List.mapM_cons, h0, ih]
  | @cell1 x t T b off cs v R rs vs hT hx hu hv _ ih =>
    have h1 := (hS.sub hu.to).rowCell (off := off)
    haveI := hT
    have h0 : (resOf a.tmps (.cell x t)).run P w = .ok v w := by simp [resOf, hF.get _ _ hx, asAddr, run_loadVar1 (t := t) (h1.trans hv)]
    simp [List.mapM_cons, h0, ih]
  | @cellN x t T k b off cs us R rs vs hT hz hx hu hv _ ih =>
    haveI := hT
    haveI := hz
    have h1 : ∀ j v, us[j]? = some v → w.cell? ((⟨b, off, none⟩ : Addr).add j) = some v := fun j v hj => by
      rw [Addr.add_lit, (hS.sub hu.to).rowCell]; exact hv.at.1 j v hj
    have h0 : (resOf a.tmps (.cell x t)).run P w = .ok (.agg us.toArray) w := by simp [resOf, hF.get _ _ hx, asAddr, run_loadVarN (t := t) hv.at.2 h1]
    simp [List.mapM_cons, h0, ih]
theorem results_run {fn : Func} {rs : List ResultVar} {vs : List Value} {v : Value} (hfn : fn.results = rs.toArray) (h : ResR P F L rs vs) (hv : tup vs = v) {a : Act} {W1 w : World} (hF : FrOk n a F) (hS : St W1 H w L) :
    (results fn a.tmps).run P w = .ok v w := by
  have := h.run hF hS
  subst hv
  have e : results fn a.tmps = (do let vs ← fn.results.mapM (resOf a.tmps); pure (if h : vs.size = 1 then vs[0] else .tuple vs)) := by
    unfold results; congr 1
  rw [e, hfn, List.mapM_toArray]
  simp only [Sem.run_bind, Sem.run_map, this, Result.andThen_ok, Sem.run_pure]
  match vs with
  | [] => rfl
  | [v] => rfl
  | v :: u :: r => simp [tup]
theorem ret_ret {fn : Func} {Post : Value → Heap → List HProp → Prop} {R B : List HProp} {rs : List ResultVar} {vs : List Value} {v : Value} (hfn : fn.results = rs.toArray) (hr : ResR P F L rs vs) (hv : tup vs = v)
    (hl : H0.le H) (hp : Post v H B) (hs : Sub L (B ++ R)) (hD : n.D = []) : Sat n W0 F H L (bodyPostV P fn (RetOk W0 H0 Post R) .ret) :=
  fun _ _ hF hS => ⟨by simp, hF.defs.trans hD, v, reads_of hS fun {W1} w hS => results_run hfn hr hv hF hS, v, H, B, rfl, hl, hp, hS.sub hs⟩
end
section
variable {n : NF} {W0 : GW} {F : Slots} {H : Heap} {L : List HProp} {K : Act → GW → Prop} {Q : Exit → Act → GW → Prop}
theorem q_bexit {id : Nat} (h : Sat n W0 F H L (Q .normal)) : Sat n W0 F H L (inBlockX id Q (.exit id)) := fun a w hF hS => by
  simp only [inBlockX, if_true]; exact h a w hF hS
theorem q_bpass {id id' : Nat} (hne : Nat.beq id' id = false) (h : Sat n W0 F H L (Q (.exit id'))) : Sat n W0 F H L (inBlockX id Q (.exit id')) := fun a w hF hS => by
  have : id' ≠ id := by intro e; subst e; simp at hne
  simp only [inBlockX, this, if_false]; exact h a w hF hS
end
end Go.Sx
namespace Go.Sx
open Go Go.X
def SlcR (H : Heap) (sz : Nat) (v : Value) (m : Nat) (cs : List Value) : Prop :=
  ∃ base cap, v = .slice base m cap ∧ (m ≤ cap ∧ cap ≤ 9223372036854775807) ∧ cs.length = m * sz ∧ cs.all (·.oneCell') = true ∧ (m = 0 ∨ ∃ b off, base = some ⟨b, off, none⟩ ∧ HRow H b off cs)
theorem SlcR.mono {H H' : Heap} (hl : H.le H') {sz m : Nat} {v : Value} {cs : List Value} (h : SlcR H sz v m cs) : SlcR H' sz v m cs := by
  obtain ⟨base, cap, a, b, c, d, e⟩ := h
  exact ⟨base, cap, a, b, c, d, e.imp id fun ⟨b, off, x, y⟩ => ⟨b, off, x, y.mono hl⟩⟩
theorem SlcR.nil (H : Heap) (sz : Nat) (base : Option Addr) (cap : Nat) (hc : cap ≤ 9223372036854775807) : SlcR H sz (.slice base 0 cap) 0 [] := ⟨base, cap, rfl, ⟨Nat.zero_le _, hc⟩, by simp, rfl, .inl rfl⟩
theorem SlcR.cases {H : Heap} {sz : Nat} {v : Value} {m : Nat} {cs : List Value} (h : SlcR H sz v m cs) (hm : 0 < m) : ∃ b off cap, v = .slice (some ⟨b, off, none⟩) m cap ∧ (m ≤ cap ∧ cap ≤ 9223372036854775807) ∧ cs.length = m * sz ∧ HRow H b off cs := by
  obtain ⟨base, cap, a, b, c, d, e⟩ := h
  rcases e with e | ⟨x, off, rfl, hr⟩
  · omega
  · exact ⟨x, off, cap, a, b, c, hr⟩
theorem SlcR.shape {H : Heap} {sz : Nat} {v : Value} {m : Nat} {cs : List Value} (h : SlcR H sz v m cs) : ∃ base cap, v = .slice base m cap ∧ m ≤ cap ∧ cap ≤ 9223372036854775807 := by
  obtain ⟨base, cap, a, b, _⟩ := h
  exact ⟨base, cap, a, b.1, b.2⟩
section
variable {P : Program} {n : NF} {W0 : GW} {F : Slots} {H : Heap} {L : List HProp} {K : Value → Heap → List HProp → Prop} {dst : Option Tmp} {ty : TypeId} {pos : String} {aft : Array Edge} {g : Option (Nat × Bool)}
end
end Go.Sx
namespace Go.Sx
open Go Go.X
section
variable {q : Bool} {P : Program} {n : NF} {W0 : GW} {F : Slots} {H : Heap} {L : List HProp} {ops : Array Oper} {Q : Exit → Act → GW → Prop} {rest : List Oper} {op : Op} {ty : TypeId} {pos : String} {aft : Array Edge} {d : Tmp} {v : Value}
section
variable {x y : Operand} {k : IntKind} {a b : Int} {T T' e : TypeId}
end
end
end Go.Sx
