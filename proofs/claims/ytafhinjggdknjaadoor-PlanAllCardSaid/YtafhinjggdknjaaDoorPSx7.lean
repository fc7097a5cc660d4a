/- Typed readings of memory; slices that are made and appended to. No program in sight. -/
import Derived.Test.YtafhinjggdknjaaDoorPSx3
set_option linter.unusedVariables false
set_option linter.unusedSimpArgs false
namespace Go.Sx
open Go Go.X
theorem CallsV.mono {P : Program} {f : FuncId} {args : Array Value} {w : GW} {R R' : Ending → GW → Prop} (h : CallsV P f args w R) (hr : ∀ e w', R e w' → R' e w') : CallsV P f args w R' :=
  fun Wr h1 c cs hc => h Wr h1 c cs fun v x' ⟨w', r, q⟩ => hc v x' ⟨w', r, hr _ _ q⟩
def Reads (P : Program) (fn : Func) (a : Act) (w : GW) (v : Value) : Prop :=
  ∀ Wr : BW, Sm Wr w → ∀ w1, Env Wr.toWorld w1 → (hp w.toWorld).le (rp w1) → (pool w.s).le (rp w1) → (results fn a.tmps).run P w1 = .ok v w1 ∧ ∀ e ∈ (results fn a.tmps).events P w1 #[], MineP (hp w.toWorld) (pool w.s) w1.heap.size e ∧ EvLow w1.heap.size e
def bodyPostV (P : Program) (fn : Func) (R : Ending → GW → Prop) (e : Exit) (a : Act) (w : GW) : Prop := (e = .normal ∨ e = .ret) ∧ a.defers = [] ∧ ∃ v, Reads P fn a w v ∧ R (.returned v) w
theorem callsV_of {P : Program} {f : FuncId} {fn : Func} {c : Code} {args : Array Value} {w : GW} {R : Ending → GW → Prop} (hf : P.funcs[f]? = some fn) (hb : fn.body = some c)
    (h : c.wpV P (bodyPostV P fn R) { tmps := args ++ Array.replicate (fn.ntmps - args.size) undef, defers := [] } w) : CallsV P f args w R := fun Wr h1 =>
  callsX_of hf hb (wpX_mono (h Wr h1) fun e a x ⟨w', r, he, hd, v, hrun, hR⟩ => ⟨he, hd, fun w1 hen hl hpl => by
    have e := r.eq
    subst e
    obtain ⟨k1, k2⟩ := hrun Wr r.sm w1 hen hl hpl
    exact ⟨v, k1, k2, w', r, hR⟩⟩)
theorem reads_of {P : Program} {fn : Func} {a : Act} {w : GW} {v : Value} {W0 : GW} {H : Heap} {L : List HProp} (hS : StG W0 H w L) (h : ∀ {W1 : World} w, St W1 H w L → (results fn a.tmps).run P w = .ok v w) : Reads P fn a w v := by
  exact fun Wr h1 w1 he hl hpl => run_same (calm_results fn a.tmps) h hS h1 w1 he hl hpl
def Ct (P : Program) (f : FuncId) (vs : Array Value) (W0 : GW) (H : Heap) (A : List HProp) (Post : Value → Heap → List HProp → Prop) : Prop :=
  ∀ (w : GW) R, StG W0 H w (A ++ R) → CallsV P f vs w fun e w' => ∃ r H' B, e = .returned r ∧ H.le H' ∧ Post r H' B ∧ StG W0 H' w' (B ++ R)
theorem Ct.mono {P : Program} {f : FuncId} {vs : Array Value} {W0 : GW} {H : Heap} {A : List HProp} {Post Post' : Value → Heap → List HProp → Prop} (h : Ct P f vs W0 H A Post)
    (hp : ∀ r H' B, H.le H' → Post r H' B → Post' r H' B) : Ct P f vs W0 H A Post' :=
  fun w R hS => CallsV.mono (h w R hS) fun _ _ ⟨r, H', B, a, b, c, d⟩ => ⟨r, H', B, a, b, hp r H' B b c, d⟩
inductive Args (F : Slots) : List Operand → List Value → Prop
  | nil : Args F [] []
  | cons {x : Operand} {v : Value} {l : List Operand} {vs : List Value} : opv F x = some v → Args F l vs → Args F (x :: l) (v :: vs)
theorem Args.eval {n : NF} {F : Slots} {l : List Operand} {vs : List Value} (h : Args F l vs) {a : Act} (hF : FrOk n a F) : l.map a.eval = vs := by
  induction h with
  | nil => rfl
  | cons hx _ ih => simp [hF.opv hx, ih]
inductive Params : Nat → List Value → Slots → Prop
  | nil {i : Nat} : Params i [] []
  | cons {i : Nat} {v : Value} {vs : List Value} {F : Slots} : Params (i + 1) vs F → Params i (v :: vs) ((i, v) :: F)
def RetOk (W0 : GW) (H : Heap) (Post : Value → Heap → List HProp → Prop) (R : List HProp) : Ending → GW → Prop :=
  fun e w' => ∃ r H' B, e = .returned r ∧ H.le H' ∧ Post r H' B ∧ StG W0 H' w' (B ++ R)
section
variable {P : Program} {n : NF} {W0 : GW} {F : Slots} {H : Heap} {L : List HProp} {K : Value → Heap → List HProp → Prop} {dst : Option Tmp} {ty : TypeId} {pos : String} {aft : Array Edge} {g : Option (Nat × Bool)}
theorem op_callv {f : FuncId} {x : Operand} {l : List Operand} {at_ : Array TypeId} {vs cap fst : List Value} {A R : List HProp} {Post : Value → Heap → List HProp → Prop} [hf : TFn P f]
    (hx : opv F x = some (.func (.func f) fst.toArray cap.toArray)) (ha : Args F l vs)
    (hs : Ct P f (fst ++ vs ++ cap).toArray W0 H A Post) (ht : Take L A R) (hk : ∀ r H' B, H.le H' → Post r H' B → K r H' (B ++ R)) :
    OpW P n W0 ⟨dst, .call ⟨.value x, l.toArray, at_⟩, ty, pos, aft, g⟩ F H L K := by
  intro a w next hF hS hn
  have hm := ha.eval hF
  refine (callV_of (f := f) (args := (fst ++ vs ++ cap).toArray) (fun w => ?_) (fun w => ?_) (CallsV.mono (hs w R (hS.sub ht.to)) ?_))
  · simp only [execOp, resolve, hF.opv hx]
    simp [Deferred.ofValue, invoke, hf.run, hm]
  · simp only [execOp, resolve, hF.opv hx]
    simp [Deferred.ofValue, invoke, hm, hf.events]
  · rintro e w' ⟨r, H', B, rfl, hl, hp, hs'⟩
    exact ⟨r, rfl, hn r H' (B ++ R) w' hl (hk r H' B hl hp) hs'⟩
theorem yv_call {f : FuncId} {l : List Operand} {at_ : Array TypeId} {vs : List Value} {A R : List HProp} {v : Value} [hf : TFn P f] (ha : Args F l vs)
    (hs : Ct P f vs.toArray W0 H A fun r H' B => r = v ∧ H' = H ∧ B = A) (ht : Take L A R) (hb : Sub (A ++ R) L) {a : Act} {w : GW} (hF : FrOk n a F) (hS : StG W0 H w L) :
    (⟨dst, .call ⟨.value (.func f), l.toArray, at_⟩, ty, pos, aft, g⟩ : Oper).yV P a.eval w fun v' w' => v' = v ∧ StG W0 H w' L := by
  have hm := ha.eval hF
  refine callV_of (f := f) (args := vs.toArray) (fun w => ?_) (fun w => ?_) (CallsV.mono (hs w R (hS.sub ht.to)) ?_)
  · simp only [execOp, resolve, Act.eval]
    simp [Deferred.ofValue, invoke, hf.run, hm]
  · simp only [execOp, resolve, Act.eval]
    simp [Deferred.ofValue, invoke, hm, hf.events]
  · rintro e w' ⟨r, H', B, rfl, hl, ⟨rfl, rfl, rfl⟩, hs'⟩
    exact ⟨r, rfl, rfl, hs'.sub hb⟩
theorem op_call {f : FuncId} {l : List Operand} {at_ : Array TypeId} {vs : List Value} {A R : List HProp} {Post : Value → Heap → List HProp → Prop} [hf : TFn P f] (ha : Args F l vs)
    (hs : Ct P f vs.toArray W0 H A Post) (ht : Take L A R) (hk : ∀ r H' B, H.le H' → Post r H' B → K r H' (B ++ R)) :
    OpW P n W0 ⟨dst, .call ⟨.value (.func f), l.toArray, at_⟩, ty, pos, aft, g⟩ F H L K :=
  op_callv (fst := []) (cap := []) (x := .func f) rfl ha (by simpa using hs) ht hk
end
section
variable {P : Program} {n : NF} {W0 : GW} {F : Slots} {H H0 : Heap} {L : List HProp} {Q : Exit → Act → GW → Prop}
theorem Ct.of_body {f : FuncId} {fn : Func} {c : Code} {vs : List Value} {A : List HProp} {Post : Value → Heap → List HProp → Prop} (hf : P.funcs[f]? = some fn) (hb : fn.body = some c) (hn : fn.ntmps = n.n) (hD : n.D = [])
    (hF : Params 0 vs F) (hl : Nat.ble vs.length n = true) (h : ∀ R, Sat n W0 F H (A ++ R) (c.wpV P (bodyPostV P fn (RetOk W0 H Post R)))) : Ct P f vs.toArray W0 H A Post := by
  intro w R hS
  refine callsV_of hf hb (h R _ w ?_ hS)
  have hl' : vs.length ≤ n := by simpa using hl
  refine ⟨by simp [hn]; omega, hD.symm, ?_⟩
  have key : ∀ i vs F, Params i vs F → ∀ t v, fget F t = some v → i ≤ t ∧ vs[t - i]? = some v := by
    intro i vs F hp
    induction hp with
    | nil => intro t v h; simp [fget] at h
    | @cons i v vs F _ ih =>
      intro t u h
      rw [fget_cons] at h
      by_cases e : i = t
      · subst e; simp at h; subst h; simp
      · simp only [e, if_false] at h
        have h1 := ih t u h
        refine ⟨by omega, ?_⟩
        have h2 : t - i = (t - (i + 1)) + 1 := by omega
        rw [h2]; simpa using h1.2
  intro t v ht
  have h1 := key 0 vs F hF t v ht
  have h2 : vs[t]? = some v := by simpa using h1.2
  have h3 : t < vs.length := (List.getElem?_eq_some_iff.1 h2).1
  rw [Array.getElem?_append]
  have h4 : vs[t] = v := by rw [List.getElem?_eq_getElem h3] at h2; exact Option.some.inj h2
  simp [h3, h4]
inductive ResR (P : Program) (F : Slots) (L : List HProp) : List ResultVar → List Value → Prop
  | nil : ResR P F L [] []
  | tmp {t : Tmp} {v : Value} {rs : List ResultVar} {vs : List Value} : fget F t = some v → ResR P F L rs vs → ResR P F L (.tmp t :: rs) (v :: vs)
  | cell1 {a : Tmp} {t T : TypeId} {b off : Nat} {cs : List Value} {v : Value} {R : List HProp} {rs : List ResultVar} {vs : List Value} : TAgg P t false → fget F a = some (.pointer (some ⟨b, off, none⟩)) →
      Has L (row b T cs) R → cs[off]? = some v → ResR P F L rs vs → ResR P F L (.cell a t :: rs) (v :: vs)
  | cellN {a : Tmp} {t T : TypeId} {k b off : Nat} {cs us : List Value} {R : List HProp} {rs : List ResultVar} {vs : List Value} : TAgg P t true → TSz P t k → fget F a = some (.pointer (some ⟨b, off, none⟩)) →
      Has L (row b T cs) R → Pick cs off k us → ResR P F L rs vs → ResR P F L (.cell a t :: rs) (.agg us.toArray :: vs)
def tup : List Value → Value
  | [v] => v
  | vs => .tuple vs.toArray
def resOf (tmps : Array Value) : ResultVar → Sem Value
  | .tmp t => pure (tmps.getD t undef)
  | .cell x t => do loadVar t (← asAddr (tmps.getD x undef))
theorem ResR.run {rs : List ResultVar} {vs : List Value} (h : ResR P F L rs vs) {a : Act} {W1 w : World} (hF : FrOk n a F) (hS : St W1 H w L) :
    (rs.mapM (resOf a.tmps)).run P w = .ok vs w := by
  induction h with
  | nil => rfl
  | @tmp t v rs vs ht _ ih =>
    have h0 : (resOf a.tmps (.tmp t)).run P w = .ok v w := by simp [resOf, hF.get _ _ ht]
    simp [List.mapM_cons, h0, ih]
  | @cell1 x t T b off cs v R rs vs hT hx hu hv _ ih =>
    have h1 := (hS.sub hu.to).rowCell (off := off)
    haveI := hT
    have h0 : (resOf a.tmps (.cell x t)).run P w = .ok v w := by simp [resOf, hF.get _ _ hx, asAddr, run_loadVar1 (t := t) (h1.trans hv)]
    simp [List.mapM_cons, h0, ih]
  | @cellN x t T k b off cs us R rs vs hT hz hx hu hv _ ih =>
    haveI := hT
    haveI := hz
    have h1 : ∀ j v, us[j]? = some v → w.cell? ((⟨b, off, none⟩ : Addr).add j) = some v := fun j v hj => by
      rw [Addr.add_lit, (hS.sub hu.to).rowCell]; exact hv.at.1 j v hj
    have h0 : (resOf a.tmps (.cell x t)).run P w = .ok (.agg us.toArray) w := by simp [resOf, hF.get _ _ hx, asAddr, run_loadVarN (t := t) hv.at.2 h1]
    simp [List.mapM_cons, h0, ih]
theorem results_run {fn : Func} {rs : List ResultVar} {vs : List Value} {v : Value} (hfn : fn.results = rs.toArray) (h : ResR P F L rs vs) (hv : tup vs = v) {a : Act} {W1 w : World} (hF : FrOk n a F) (hS : St W1 H w L) :
    (results fn a.tmps).run P w = .ok v w := by
  have := h.run hF hS
  subst hv
  have e : results fn a.tmps = (do let vs ← fn.results.mapM (resOf a.tmps); pure (if h : vs.size = 1 then vs[0] else .tuple vs)) := by
    unfold results; congr 1
  rw [e, hfn, List.mapM_toArray]
  simp only [Sem.run_bind, Sem.run_map, this, Result.andThen_ok, Sem.run_pure]
  match vs with
  | [] => rfl
  | [v] => rfl
  | v :: u :: r => simp [tup]
theorem ret_ret {fn : Func} {Post : Value → Heap → List HProp → Prop} {R B : List HProp} {rs : List ResultVar} {vs : List Value} {v : Value} (hfn : fn.results = rs.toArray) (hr : ResR P F L rs vs) (hv : tup vs = v)
    (hl : H0.le H) (hp : Post v H B) (hs : Sub L (B ++ R)) (hD : n.D = []) : Sat n W0 F H L (bodyPostV P fn (RetOk W0 H0 Post R) .ret) :=
  fun _ _ hF hS => ⟨by simp, hF.defs.trans hD, v, reads_of hS fun {W1} w hS => results_run hfn hr hv hF hS, v, H, B, rfl, hl, hp, hS.sub hs⟩
theorem ret_end {fn : Func} {Post : Value → Heap → List HProp → Prop} {R B : List HProp} {rs : List ResultVar} {vs : List Value} {v : Value} (hfn : fn.results = rs.toArray) (hr : ResR P F L rs vs) (hv : tup vs = v)
    (hl : H0.le H) (hp : Post v H B) (hs : Sub L (B ++ R)) (hD : n.D = []) : Sat n W0 F H L (bodyPostV P fn (RetOk W0 H0 Post R) .normal) :=
  fun _ _ hF hS => ⟨by simp, hF.defs.trans hD, v, reads_of hS fun {W1} w hS => results_run hfn hr hv hF hS, v, H, B, rfl, hl, hp, hS.sub hs⟩
end
section
variable {n : NF} {W0 : GW} {F : Slots} {H : Heap} {L : List HProp} {K : Act → GW → Prop} {Q : Exit → Act → GW → Prop}
theorem q_bexit {id : Nat} (h : Sat n W0 F H L (Q .normal)) : Sat n W0 F H L (inBlockX id Q (.exit id)) := fun a w hF hS => by
  simp only [inBlockX, if_true]; exact h a w hF hS
theorem q_bpass {id id' : Nat} (hne : Nat.beq id' id = false) (h : Sat n W0 F H L (Q (.exit id'))) : Sat n W0 F H L (inBlockX id Q (.exit id')) := fun a w hF hS => by
  have : id' ≠ id := by intro e; subst e; simp at hne
  simp only [inBlockX, this, if_false]; exact h a w hF hS
end
end Go.Sx
namespace Go.Sx
open Go Go.X
def SlcR (H : Heap) (sz : Nat) (v : Value) (m : Nat) (cs : List Value) : Prop :=
  ∃ base cap, v = .slice base m cap ∧ (m ≤ cap ∧ cap ≤ 9223372036854775807) ∧ cs.length = m * sz ∧ cs.all (·.oneCell') = true ∧ (m = 0 ∨ ∃ b off, base = some ⟨b, off, none⟩ ∧ HRow H b off cs)
theorem SlcR.mono {H H' : Heap} (hl : H.le H') {sz m : Nat} {v : Value} {cs : List Value} (h : SlcR H sz v m cs) : SlcR H' sz v m cs := by
  obtain ⟨base, cap, a, b, c, d, e⟩ := h
  exact ⟨base, cap, a, b, c, d, e.imp id fun ⟨b, off, x, y⟩ => ⟨b, off, x, y.mono hl⟩⟩
theorem SlcR.nil (H : Heap) (sz : Nat) (base : Option Addr) (cap : Nat) (hc : cap ≤ 9223372036854775807) : SlcR H sz (.slice base 0 cap) 0 [] := ⟨base, cap, rfl, ⟨Nat.zero_le _, hc⟩, by simp, rfl, .inl rfl⟩
theorem SlcR.cases {H : Heap} {sz : Nat} {v : Value} {m : Nat} {cs : List Value} (h : SlcR H sz v m cs) (hm : 0 < m) : ∃ b off cap, v = .slice (some ⟨b, off, none⟩) m cap ∧ (m ≤ cap ∧ cap ≤ 9223372036854775807) ∧ cs.length = m * sz ∧ HRow H b off cs := by
  obtain ⟨base, cap, a, b, c, d, e⟩ := h
  rcases e with e | ⟨x, off, rfl, hr⟩
  · omega
  · exact ⟨x, off, cap, a, b, c, hr⟩
theorem SlcR.shape {H : Heap} {sz : Nat} {v : Value} {m : Nat} {cs : List Value} (h : SlcR H sz v m cs) : ∃ base cap, v = .slice base m cap ∧ m ≤ cap ∧ cap ≤ 9223372036854775807 := by
  obtain ⟨base, cap, a, b, _⟩ := h
  exact ⟨base, cap, a, b.1, b.2⟩
section
variable {P : Program} {n : NF} {W0 : GW} {F : Slots} {H : Heap} {L : List HProp} {K : Value → Heap → List HProp → Prop} {dst : Option Tmp} {ty : TypeId} {pos : String} {aft : Array Edge} {g : Option (Nat × Bool)}
end
end Go.Sx
namespace Go.Sx
open Go Go.X
section
variable {q : Bool} {P : Program} {n : NF} {W0 : GW} {F : Slots} {H : Heap} {L : List HProp} {ops : Array Oper} {Q : Exit → Act → GW → Prop} {rest : List Oper} {op : Op} {ty : TypeId} {pos : String} {aft : Array Edge} {d : Tmp} {v : Value}
section
variable {x y : Operand} {k : IntKind} {a b : Int} {T T' e : TypeId}
end
end
end Go.Sx
namespace Go.Sx
open Go Go.X
section
variable {P : Program} {n : NF} {W0 : GW} {F : Slots} {H : Heap} {L : List HProp} {Q : Exit → Act → GW → Prop} {c : Operand} {x y : Code} {p : Prop} [Decidable p]
end
section
variable {P : Program} {n : NF} {W0 : GW} {F : Slots} {H H0 : Heap} {L R : List HProp}
end
theorem HRow.drop {H : Heap} {b off k : Nat} {cs : List Value} (h : HRow H b off cs) : HRow H b (off + k) (cs.drop k) := fun j v hj => by
  rw [List.getElem?_drop] at hj; rw [Nat.add_assoc]; exact h _ v hj
theorem HRow.take {H : Heap} {b off k : Nat} {cs : List Value} (h : HRow H b off cs) : HRow H b off (cs.take k) := fun j v hj => by
  rw [List.getElem?_take] at hj; split at hj
  · exact h _ v hj
  · cases hj
theorem HRow.app {H : Heap} {b off : Nat} {cs ds : List Value} (h : HRow H b off (cs ++ ds)) : HRow H b off cs ∧ HRow H b (off + cs.length) ds :=
  ⟨fun j v hj => h j v (by rw [List.getElem?_append_left (List.getElem?_eq_some_iff.1 hj).1]; exact hj),
   fun j v hj => by rw [Nat.add_assoc]; exact h _ v (by rw [List.getElem?_append_right (by omega)]; simpa using hj)⟩
abbrev Rd (α : Type) := Heap → List Value → α → Prop
class RdOk {α : Type} (R : Rd α) (sz : outParam Nat) : Prop where
  len : ∀ {H c x}, R H c x → c.length = sz
  one : ∀ {H c x}, R H c x → c.all (·.oneCell') = true
  mono : ∀ {H H' c x}, Heap.le H H' → R H c x → R H' c x
def rInt : Rd Int := fun _ c x => c = [.int .i64 x] ∧ fits x
def cap47 : Nat := 140737488355328
def rStr : Rd ByteArray := fun _ c x => c = [.string x] ∧ x.size ≤ cap47
instance : RdOk rInt 1 := ⟨fun ⟨h, _⟩ => by subst h; rfl, fun ⟨h, _⟩ => by subst h; rfl, fun _ h => h⟩
instance : RdOk rStr 1 := ⟨fun ⟨h, _⟩ => by subst h; rfl, fun ⟨h, _⟩ => by subst h; rfl, fun _ h => h⟩
def RL {α : Type} (R : Rd α) (H : Heap) : List Value → List α → Prop
  | cs, [] => cs = []
  | cs, x :: xs => ∃ c r, cs = c ++ r ∧ R H c x ∧ RL R H r xs
section
variable {α : Type} {R : Rd α} {sz : Nat} {H H' : Heap}
theorem RL.mono [hR : RdOk R sz] (hl : H.le H') : ∀ {cs : List Value} {xs : List α}, RL R H cs xs → RL R H' cs xs
  | _, [], h => h
  | _, _ :: _, ⟨c, r, e, h1, h2⟩ => ⟨c, r, e, hR.mono hl h1, RL.mono hl h2⟩
theorem RL.len [hR : RdOk R sz] : ∀ {cs : List Value} {xs : List α}, RL R H cs xs → cs.length = xs.length * sz
  | _, [], h => by rw [show _ = [] from h]; simp
  | _, _ :: xs, ⟨c, r, e, h1, h2⟩ => by rw [e, List.length_append, hR.len h1, RL.len h2, List.length_cons, Nat.add_mul]; omega
theorem RL.one [hR : RdOk R sz] : ∀ {cs : List Value} {xs : List α}, RL R H cs xs → cs.all (·.oneCell') = true
  | _, [], h => by rw [show _ = [] from h]; rfl
  | _, _ :: xs, ⟨c, r, e, h1, h2⟩ => by rw [e, List.all_append, hR.one h1, RL.one h2]; rfl
theorem RL.app : ∀ {cs ds : List Value} {xs ys : List α}, RL R H cs xs → RL R H ds ys → RL R H (cs ++ ds) (xs ++ ys)
  | _, _, [], _, h, h' => by rw [show _ = [] from h]; exact h'
  | _, _, _ :: _, _, ⟨c, r, e, h1, h2⟩, h' => ⟨c, r ++ _, by rw [e, List.append_assoc], h1, RL.app h2 h'⟩
theorem RL.nil : RL R H [] [] := rfl
theorem RL.single {c : List Value} {x : α} (h : R H c x) : RL R H c [x] := ⟨c, [], by simp, h, rfl⟩
theorem RL.snoc {cs c : List Value} {xs : List α} {x : α} (h : RL R H cs xs) (h' : R H c x) : RL R H (cs ++ c) (xs ++ [x]) := h.app (RL.single h')
theorem RL.split [hR : RdOk R sz] : ∀ {k : Nat} {cs : List Value} {xs : List α}, RL R H cs xs → k ≤ xs.length → RL R H (cs.take (k * sz)) (xs.take k) ∧ RL R H (cs.drop (k * sz)) (xs.drop k)
  | 0, cs, xs, h, _ => by simp [RL, h]
  | k + 1, _, [], _, hk => by simp at hk
  | k + 1, cs, x :: xs, ⟨c, r, e, h1, h2⟩, hk => by
    have hl := hR.len h1
    obtain ⟨i1, i2⟩ := RL.split h2 (k := k) (by simpa using hk)
    have e1 : (k + 1) * sz = c.length + k * sz := by rw [Nat.add_mul, hl]; omega
    rw [e, e1, List.take_length_add_append, List.drop_length_add_append]
    exact ⟨⟨c, _, rfl, h1, i1⟩, i2⟩
theorem RL.take [RdOk R sz] {k : Nat} {cs : List Value} {xs : List α} (h : RL R H cs xs) (hk : k ≤ xs.length) : RL R H (cs.take (k * sz)) (xs.take k) := (h.split hk).1
theorem RL.drop [RdOk R sz] {k : Nat} {cs : List Value} {xs : List α} (h : RL R H cs xs) (hk : k ≤ xs.length) : RL R H (cs.drop (k * sz)) (xs.drop k) := (h.split hk).2
theorem RL.get [hR : RdOk R sz] {k : Nat} {cs : List Value} {xs : List α} (h : RL R H cs xs) (hk : k < xs.length) : ∃ c r, cs.drop (k * sz) = c ++ r ∧ R H c xs[k] := by
  have := h.drop (Nat.le_of_lt hk)
  rw [List.drop_eq_getElem_cons hk] at this
  obtain ⟨c, r, e, h1, _⟩ := this
  exact ⟨c, r, e, h1⟩
end
def SlR {α : Type} (R : Rd α) (sz : Nat) (H : Heap) (v : Value) (xs : List α) : Prop := ∃ cs, SlcR H sz v xs.length cs ∧ RL R H cs xs
section
variable {α : Type} {R : Rd α} {sz : Nat} {H H' : Heap} {v : Value} {xs : List α}
theorem SlR.mono [RdOk R sz] (hl : H.le H') (h : SlR R sz H v xs) : SlR R sz H' v xs := by obtain ⟨cs, a, b⟩ := h; exact ⟨cs, a.mono hl, b.mono hl⟩
theorem SlR.shape (h : SlR R sz H v xs) : ∃ base cap, v = .slice base xs.length cap ∧ xs.length ≤ cap ∧ cap ≤ 9223372036854775807 := by obtain ⟨cs, a, _⟩ := h; exact a.shape
theorem SlR.get [hR : RdOk R sz] {base : Option Addr} {m cap k : Nat} (h : SlR R sz H (.slice base m cap) xs) (hk : k < xs.length) :
    ∃ b off c, base = some ⟨b, off, none⟩ ∧ m = xs.length ∧ HRow H b (off + k * sz) c ∧ R H c xs[k] := by
  obtain ⟨cs, a, hr⟩ := h
  obtain ⟨b, off, cap', e, _, _, hrow⟩ := a.cases (by omega)
  cases e
  obtain ⟨c, r, e, h1⟩ := hr.get hk
  refine ⟨b, off, c, rfl, rfl, ?_, h1⟩
  have := hrow.drop (k := k * sz)
  rw [e] at this
  exact this.app.1
theorem SlR.nil (H : Heap) (R : Rd α) (sz : Nat) (base : Option Addr) (cap : Nat) (hc : cap ≤ 9223372036854775807) : SlR R sz H (.slice base 0 cap) ([] : List α) := ⟨[], SlcR.nil H sz base cap hc, rfl⟩
end
def own (T : TypeId) (sz : Nat) (s : Value) (m : Nat) (xs : List Value) : HProp := fun h =>
  xs.length = m * sz ∧ ((m = 0 ∧ ∃ base, s = .slice base 0 0) ∨
    ∃ b cap sp, s = .slice (some ⟨b, 0, none⟩) m cap ∧ 0 < cap ∧ m ≤ cap ∧ cap ≤ maxLen ∧ (xs ++ sp).length = cap * sz ∧ h b = some (.cells (xs ++ sp).toArray T (0, 0)))
inductive ASrc (P : Program) (sz : Nat) (H : Heap) (L : List HProp) : TypeId → Value → Nat → List Value → Prop
  | nil {t e : TypeId} {base : Option Addr} {c : Nat} : P.underlying t = some (.slice e) → ASrc P sz H L t (.slice base 0 c) 0 []
  | ro {t e : TypeId} {v : Value} {m : Nat} {cs : List Value} : P.underlying t = some (.slice e) → SlcR H sz v m cs → ASrc P sz H L t v m cs
  | row {t e : TypeId} {b m c : Nat} {T : TypeId} {cs sp : List Value} {R : List HProp} : P.underlying t = some (.slice e) → Has L (row b T (cs ++ sp)) R → cs.length = m * sz → cs.all (·.oneCell') = true → ASrc P sz H L t (.slice (some ⟨b, 0, none⟩) m c) m cs
  | str {t : TypeId} {s : ByteArray} : sz = 1 → P.underlying t = some .string → ASrc P sz H L t (.string s) s.size (byteCells s)
theorem ASrc.src {P : Program} {sz : Nat} {H : Heap} {L : List HProp} {t : TypeId} {v : Value} {m : Nat} {cs : List Value} (h : ASrc P sz H L t v m cs) {W0 w : World} (hS : St W0 H w L) : Src P sz t v m cs w := by
  cases h with
  | @nil e base c hk =>
    cases base with
    | none => exact Src.ofNil w hk c
    | some a => exact Src.ofSlice w hk a 0 c [] (by simp) (by simp) (by simp)
  | ro hk hr =>
    obtain ⟨base, cap, rfl, _, hl, h1, he⟩ := hr
    rcases he with rfl | ⟨b, off, rfl, hrow⟩
    · have : cs = [] := List.eq_nil_of_length_eq_zero (by simpa using hl)
      subst this
      cases base with
      | none => exact Src.ofNil w hk cap
      | some a => exact Src.ofSlice w hk a 0 cap [] (by simp) (by simp) (by simp)
    · exact Src.ofSlice w hk _ m cap cs hl (fun j u hj => by rw [Addr.add_lit]; exact hS.hcell (hrow j u hj)) (by simpa using h1)
  | @row e b m c T cs sp R hk hh hl h1 =>
    refine Src.ofSlice w hk _ m c cs hl (fun j u hj => ?_) (by simpa using h1)
    rw [Addr.add_lit, (hS.sub hh.to).rowCell, Nat.zero_add, List.getElem?_append_left (List.getElem?_eq_some_iff.1 hj).1]; exact hj
  | str hz hk => subst hz; exact Src.ofString w hk _
section
variable {P : Program} {n : NF} {W0 : GW} {F : Slots} {H : Heap} {L : List HProp} {K : Value → Heap → List HProp → Prop} {dst : Option Tmp} {ty : TypeId} {pos : String} {aft : Array Edge} {g : Option (Nat × Bool)}
theorem zeroCells_len (z : Array Value) (n : Nat) : (Builtin.zeroCells z n).size = n * z.size := by simp [Builtin.zeroCells]
theorem run_append_mine {W0 w : World} {R : List HProp} {t tx e : TypeId} {sz by_ : Nat} {z : Value} [hT : TSl P t e] [hI : TIn P e sz by_ z] {s x : Value} {m k : Nat} {xs news : List Value}
    (hS : St W0 H w (own e sz s m xs :: R)) (hsrc : Src P sz tx x k news w) (hb1 : m + k ≤ maxLen) (hb2 : (m + k) * by_ ≤ 140737488355328) :
    ∃ base cap w', (Builtin.append_ #[t, tx] ty #[s, x]).run P w = .ok (.slice base (m + k) cap) w' ∧ St W0 H w' (own e sz (.slice base (m + k) cap) (m + k) (xs ++ news) :: R) := by
  obtain ⟨i, hi, hsz, hby, hz, hzs, hpos⟩ := hI.ex
  subst hsz; subst hby
  have hsmall : ((m + k : Nat) : Int) ≤ 9223372036854775807 := by simp only [maxLen] at hb1; omega
  have hnl := hsrc.newsLen
  have hml : maxLen = 9223372036854775807 := rfl
  obtain ⟨hA, hR, a, r, d, dA, dR, lA, lR⟩ := hS.parts
  obtain ⟨hxl, hcase⟩ := a
  have grow : ∀ (base : Option Addr) (cap : Nat), s = .slice base m cap → cap < m + k → (Builtin.firstCells i.size m (.slice base m cap)).run P w.drew = .ok xs.toArray w.drew →
      ∃ base' cap' w', (Builtin.append_ #[t, tx] ty #[s, x]).run P w = .ok (.slice base' (m + k) cap') w' ∧ St W0 H w' (own e i.size (.slice base' (m + k) cap') (m + k) (xs ++ news) :: R) := by
    intro base cap hs hlt hold
    have hr := run_append_grow_src (P := P) (ty := ty) w t tx e i z hT.und hi hz base m cap xs hold x k news hsrc hlt hsmall (growslice_fits hlt hb2)
    refine ⟨_, _, _, by rw [hs]; exact hr, ?_⟩
    have hge := grownCap_ge w (m + k) cap e
    have hcm : grownCap w (m + k) cap e ≤ maxLen := grownCap_le_maxLen w (m + k) cap e hb1
    have hS2 : St W0 H w R := hS.sub (Sub.drop (Sub.refl _))
    have hS3 : St W0 H w.drew R := hS2.keep (hS2.env.of rfl rfl rfl) rfl
    have h4 := hS3.alloc (w' := w.drew.alloc (.cells ((xs ++ news).toArray ++ Builtin.zeroCells z.cells (grownCap w (m + k) cap e - (m + k))) e)) (hS3.env.of rfl rfl rfl) rfl
    refine h4.sub fun h hh => ?_
    obtain ⟨h1, h2, p, q, dd, l1, l2⟩ := hh
    refine ⟨h1, h2, ⟨by rw [List.length_append, hxl, hnl, Nat.add_mul], .inr ⟨w.heap.size, _, (Builtin.zeroCells z.cells (grownCap w (m + k) cap e - (m + k))).toList, rfl, by omega, hge, hcm, ?_, ?_⟩⟩, q, dd, l1, l2⟩
    · simp only [List.length_append, Array.length_toList, zeroCells_len, hzs, hxl, hnl]
      rw [← Nat.add_mul, ← Nat.add_mul]; congr 1; omega
    · have : h1 w.heap.size = some (.cells ((xs ++ news).toArray ++ Builtin.zeroCells z.cells (grownCap w (m + k) cap e - (m + k))) e (0, 0)) := p
      rw [this]; congr 2; apply Array.ext'; simp
  rcases hcase with ⟨rfl, base, rfl⟩ | ⟨b, cap, sp, rfl, hc0, hmc, hcm, hcl, hb⟩
  · have hx0 : xs = [] := List.eq_nil_of_length_eq_zero (by simpa using hxl)
    subst hx0
    by_cases hk : k = 0
    · subst hk
      have hn0 : news = [] := List.eq_nil_of_length_eq_zero (by simpa using hnl)
      subst hn0
      refine ⟨base, 0, w, ?_, hS⟩
      have hlen := hsrc.len
      have hcells := hsrc.cells
      rcases hsrc.kind with ⟨e', hk'⟩ | hk' <;> cases base <;> simp [Builtin.append_, run_underlying hT.und, run_underlying hk', sizeOf, typeInfo, hi, hlen, hcells, storeCells]
    · refine grow base 0 rfl (by omega) ?_
      cases base with
      | none => simp [Builtin.firstCells]
      | some a => simp [Builtin.firstCells, loadCells, loadCellsFrom]
  · by_cases hroom : m + k ≤ cap
    · have hbw : w.heap[b]? = some (.cells (xs ++ sp).toArray e (0, 0)) := hp_some (lA b _ hb)
      have hfit : m * i.size + news.length ≤ (xs ++ sp).length := by rw [hnl, hcl, ← Nat.add_mul]; exact Nat.mul_le_mul_right _ hroom
      have hst := run_storeCells_at P b (m * i.size) e news 0 (xs ++ sp).toArray w hbw (by simpa using hfit) hsrc.one
      simp only [Nat.add_zero] at hst
      have hrun : (Builtin.append_ #[t, tx] ty #[.slice (some ⟨b, 0, none⟩) m cap, x]).run P w = .ok (.slice (some ⟨b, 0, none⟩) (m + k) cap) (w.setRow b ((xs ++ sp).toArray.toList.take (m * i.size) ++ news ++ (xs ++ sp).toArray.toList.drop (m * i.size + news.length)).toArray) := by
        have hlen := hsrc.len
        have hcells := hsrc.cells
        rcases hsrc.kind with ⟨e', hk'⟩ | hk' <;> simp [Builtin.append_, run_underlying hT.und, run_underlying hk', sizeOf, typeInfo, hi, hlen, hcells, hroom, Addr.add_lit] <;> simp at hst <;> rw [hst] <;> simp
      refine ⟨_, _, _, hrun, ?_⟩
      have e1 : (xs ++ sp).toArray.toList.take (m * i.size) ++ news ++ (xs ++ sp).toArray.toList.drop (m * i.size + news.length) = (xs ++ news) ++ sp.drop news.length := by
        rw [← hxl]
        simp [List.append_assoc]
      rw [e1]
      refine hS.step (hS.env.of rfl rfl rfl) fun hA' a' lA' => ?_
      obtain ⟨_, hc2⟩ := a'
      have hb' : hA' b = some (.cells (xs ++ sp).toArray e (0, 0)) := by
        rcases hc2 with ⟨rfl, base, h0⟩ | ⟨b2, cap2, sp2, h0, _, _, _, _, hb2'⟩
        · cases h0; omega
        · cases h0; rw [hb2']; have := hp_some (lA' _ _ hb2'); rw [hbw] at this; injection this with this; rw [this]
      refine ⟨fun x hx hn => hp_other rfl (setRow_other w b x _ (by rintro rfl; rw [hb'] at hn; cases hn)), one b (.cells ((xs ++ news) ++ sp.drop news.length).toArray e (0, 0)), ⟨by rw [List.length_append, hxl, hnl, Nat.add_mul], .inr ⟨b, cap, sp.drop news.length, rfl, hc0, hroom, hcm, ?_, by simp [one]⟩⟩, one_le (hp_here (w := w) rfl (lA b _ hb) (setRow_heap w b _ _ e _ hbw)), fun x hx => ?_⟩
      · simp only [List.length_append, List.length_drop] at hcl hfit ⊢; omega
      · left; simp only [one] at hx; split at hx
        · rename_i e0; subst e0; rw [hb']; simp
        · simp at hx
    · refine grow _ cap rfl (by omega) ?_
      have holds : ∀ j v, xs[j]? = some v → w.drew.cell? ((⟨b, 0, none⟩ : Addr).add j) = some v := fun j v hj => by
        have hbw : w.heap[b]? = some (.cells (xs ++ sp).toArray e (0, 0)) := hp_some (lA b _ hb)
        rw [Addr.add_lit]
        rw [World.cell?_drew]
        simp only [World.cell?, hbw, Nat.zero_add]
        have : (xs ++ sp)[j]? = some v := by rw [List.getElem?_append_left (List.getElem?_eq_some_iff.1 hj).1]; exact hj
        simp [this]
      exact run_firstCells_some (P := P) w.drew i.size m _ m cap xs hxl holds
end
end Go.Sx
