/- The walk's rules, more: calls, the beginning and the end of a function, slices that are made and appended to, statements whose order is open. No program in sight. -/
import Derived.Test.YtnfmjkjhiolfdaaDoorSx3
namespace Go.Sx
open Go

/-! ### Calls -/
/-- what a call does: its arguments, what it is lent and what it hands back -/
def Ct (P : Program) (f : FuncId) (vs : Array Value) (W0 : World) (H : Heap) (A : List HProp) (Post : Value → Heap → List HProp → Prop) : Prop :=
  ∀ w R, St W0 H w (A ++ R) → Calls P f vs w fun e w' => ∃ r H' B, e = .returned r ∧ H.le H' ∧ Post r H' B ∧ St W0 H' w' (B ++ R)
/-- a call that is lent nothing and hands back no memory of its own -/
def Ct0 (P : Program) (f : FuncId) (vs : Array Value) (W0 : World) (H : Heap) (Post : Value → Heap → Prop) : Prop :=
  Ct P f vs W0 H [] fun r H' B => B = [] ∧ Post r H'
theorem Ct.mono {P : Program} {f : FuncId} {vs : Array Value} {W0 : World} {H : Heap} {A : List HProp} {Post Post' : Value → Heap → List HProp → Prop} (h : Ct P f vs W0 H A Post)
    (hp : ∀ r H' B, H.le H' → Post r H' B → Post' r H' B) : Ct P f vs W0 H A Post' :=
  fun w R hS => (h w R hS).mono fun _ _ ⟨r, H', B, a, b, c, d⟩ => ⟨r, H', B, a, b, hp r H' B b c, d⟩
inductive Args (F : Slots) : List Operand → List Value → Prop
  | nil : Args F [] []
  | cons {x : Operand} {v : Value} {l : List Operand} {vs : List Value} : opv F x = some v → Args F l vs → Args F (x :: l) (v :: vs)
theorem Args.eval {n : Nat} {F : Slots} {l : List Operand} {vs : List Value} (h : Args F l vs) {a : Act} (hF : FrOk n a F) : l.map a.eval = vs := by
  induction h with
  | nil => rfl
  | cons hx _ ih => simp [hF.opv hx, ih]
inductive Params : Nat → List Value → Slots → Prop
  | nil {i : Nat} : Params i [] []
  | cons {i : Nat} {v : Value} {vs : List Value} {F : Slots} : Params (i + 1) vs F → Params i (v :: vs) ((i, v) :: F)
def RetOk (W0 : World) (H : Heap) (Post : Value → Heap → List HProp → Prop) (R : List HProp) : Ending → World → Prop :=
  fun e w' => ∃ r H' B, e = .returned r ∧ H.le H' ∧ Post r H' B ∧ St W0 H' w' (B ++ R)
section
variable {P : Program} {n : Nat} {W0 : World} {F : Slots} {H : Heap} {L : List HProp} {K : Value → Heap → List HProp → Prop} {dst : Option Tmp} {ty : TypeId} {pos : String} {aft : Array Edge} {g : Option (Nat × Bool)}
theorem op_callv {f : FuncId} {x : Operand} {l : List Operand} {at_ : Array TypeId} {vs cap fst : List Value} {A R : List HProp} {Post : Value → Heap → List HProp → Prop} [hf : TFn P f]
    (hx : opv F x = some (.func (.func f) fst.toArray cap.toArray)) (ha : Args F l vs)
    (hs : Ct P f (fst ++ vs ++ cap).toArray W0 H A Post) (ht : Take L A R) (hk : ∀ r H' B, H.le H' → Post r H' B → K r H' (B ++ R)) :
    OpW P n W0 ⟨dst, .call ⟨.value x, l.toArray, at_⟩, ty, pos, aft, g⟩ F H L K := by
  intro a w next Q hF hS hn
  have hr : (execOp a.eval ⟨dst, .call ⟨.value x, l.toArray, at_⟩, ty, pos, aft, g⟩).run P w = .ok (.enter f (fst ++ vs ++ cap).toArray) w := by
    have hm := ha.eval hF
    simp only [execOp, resolve, hF.opv hx]
    simp [Deferred.ofValue, invoke, hf.run, hm]
  unfold Oper.wp
  rw [hr, Oper.upon_enter]
  refine (hs w R (hS.sub ht.to)).mono ?_
  rintro e w' ⟨r, H', B, rfl, hl, hp, hs'⟩
  exact hn r H' (B ++ R) w' hl (hk r H' B hl hp) hs'
theorem op_call {f : FuncId} {l : List Operand} {at_ : Array TypeId} {vs : List Value} {A R : List HProp} {Post : Value → Heap → List HProp → Prop} [hf : TFn P f] (ha : Args F l vs)
    (hs : Ct P f vs.toArray W0 H A Post) (ht : Take L A R) (hk : ∀ r H' B, H.le H' → Post r H' B → K r H' (B ++ R)) :
    OpW P n W0 ⟨dst, .call ⟨.value (.func f), l.toArray, at_⟩, ty, pos, aft, g⟩ F H L K :=
  op_callv (fst := []) (cap := []) (x := .func f) rfl ha (by simpa using hs) ht hk
theorem op_call0 {f : FuncId} {l : List Operand} {at_ : Array TypeId} {vs : List Value} {Post : Value → Heap → Prop} [hf : TFn P f] (ha : Args F l vs)
    (hs : Ct0 P f vs.toArray W0 H Post) (hk : ∀ r H', H.le H' → Post r H' → K r H' L) :
    OpW P n W0 ⟨dst, .call ⟨.value (.func f), l.toArray, at_⟩, ty, pos, aft, g⟩ F H L K :=
  op_call ha hs .nil fun r H' B hl ⟨hB, hp⟩ => by subst hB; exact hk r H' hl hp
end

/-! ### Functions -/
section
variable {P : Program} {n : Nat} {W0 : World} {F : Slots} {H H0 : Heap} {L : List HProp} {Q : Exit → Act → World → Prop}
theorem Ct.of_body {f : FuncId} {fn : Func} {c : Code} {vs : List Value} {A : List HProp} {Post : Value → Heap → List HProp → Prop} (hf : P.funcs[f]? = some fn) (hb : fn.body = some c) (hn : fn.ntmps = n)
    (hF : Params 0 vs F) (hl : Nat.ble vs.length n = true) (h : ∀ R, Sat n W0 F H (A ++ R) (c.wp P (bodyPost P fn (RetOk W0 H Post R)))) : Ct P f vs.toArray W0 H A Post := by
  intro w R hS
  refine calls_of_wp hf hb (h R _ w ?_ hS)
  have hl' : vs.length ≤ n := by simpa using hl
  refine ⟨by simp [hn]; omega, rfl, ?_⟩
  have key : ∀ i vs F, Params i vs F → ∀ t v, fget F t = some v → i ≤ t ∧ vs[t - i]? = some v := by
    intro i vs F hp
    induction hp with
    | nil => intro t v h; simp [fget] at h
    | @cons i v vs F _ ih =>
      intro t u h
      rw [fget_cons] at h
      by_cases e : i = t
      · subst e; simp at h; subst h; simp
      · simp only [e, if_false] at h
        have h1 := ih t u h
        refine ⟨by omega, ?_⟩
        have h2 : t - i = (t - (i + 1)) + 1 := by omega
        rw [h2]; simpa using h1.2
  intro t v ht
  have h1 := key 0 vs F hF t v ht
  have h2 : vs[t]? = some v := by simpa using h1.2
  have h3 : t < vs.length := (List.getElem?_eq_some_iff.1 h2).1
  rw [Array.getElem?_append]
  have h4 : vs[t] = v := by rw [List.getElem?_eq_getElem h3] at h2; exact Option.some.inj h2
  simp [h3, h4]
inductive ResR (P : Program) (F : Slots) (L : List HProp) : List ResultVar → List Value → Prop
  | nil : ResR P F L [] []
  | tmp {t : Tmp} {v : Value} {rs : List ResultVar} {vs : List Value} : fget F t = some v → ResR P F L rs vs → ResR P F L (.tmp t :: rs) (v :: vs)
  | cell1 {a : Tmp} {t T : TypeId} {b off : Nat} {cs : List Value} {v : Value} {R : List HProp} {rs : List ResultVar} {vs : List Value} : TAgg P t false → fget F a = some (.pointer (some ⟨b, off, none⟩)) →
      Has L (row b T cs) R → cs[off]? = some v → ResR P F L rs vs → ResR P F L (.cell a t :: rs) (v :: vs)
  | cellN {a : Tmp} {t T : TypeId} {k b off : Nat} {cs us : List Value} {R : List HProp} {rs : List ResultVar} {vs : List Value} : TAgg P t true → TSz P t k → fget F a = some (.pointer (some ⟨b, off, none⟩)) →
      Has L (row b T cs) R → Pick cs off k us → ResR P F L rs vs → ResR P F L (.cell a t :: rs) (.agg us.toArray :: vs)
def tup : List Value → Value
  | [v] => v
  | vs => .tuple vs.toArray
def resOf (tmps : Array Value) : ResultVar → Sem Value
  | .tmp t => pure (tmps.getD t undef)
  | .cell x t => do loadVar t (← asAddr (tmps.getD x undef))
theorem ResR.run {rs : List ResultVar} {vs : List Value} (h : ResR P F L rs vs) {a : Act} {w : World} (hF : FrOk n a F) (hS : St W0 H w L) :
    (rs.mapM (resOf a.tmps)).run P w = .ok vs w := by
  induction h with
  | nil => rfl
  | @tmp t v rs vs ht _ ih =>
    have h0 : (resOf a.tmps (.tmp t)).run P w = .ok v w := by simp [resOf, hF.get _ _ ht]
    simp [List.mapM_cons, h0, ih]
  | @cell1 x t T b off cs v R rs vs hT hx hu hv _ ih =>
    have h1 := (hS.sub hu.to).rowCell (off := off)
    haveI := hT
    have h0 : (resOf a.tmps (.cell x t)).run P w = .ok v w := by simp [resOf, hF.get _ _ hx, asAddr, run_loadVar1 (t := t) (h1.trans hv)]
    simp [List.mapM_cons, h0, ih]
  | @cellN x t T k b off cs us R rs vs hT hz hx hu hv _ ih =>
    haveI := hT
    haveI := hz
    have h1 : ∀ j v, us[j]? = some v → w.cell? ((⟨b, off, none⟩ : Addr).add j) = some v := fun j v hj => by
      rw [Addr.add_lit, (hS.sub hu.to).rowCell]; exact hv.at.1 j v hj
    have h0 : (resOf a.tmps (.cell x t)).run P w = .ok (.agg us.toArray) w := by simp [resOf, hF.get _ _ hx, asAddr, run_loadVarN (t := t) hv.at.2 h1]
    simp [List.mapM_cons, h0, ih]
theorem results_run {fn : Func} {rs : List ResultVar} {vs : List Value} {v : Value} (hfn : fn.results = rs.toArray) (h : ResR P F L rs vs) (hv : tup vs = v) {a : Act} {w : World} (hF : FrOk n a F) (hS : St W0 H w L) :
    (results fn a.tmps).run P w = .ok v w := by
  have := h.run hF hS
  subst hv
  have e : results fn a.tmps = (do let vs ← fn.results.mapM (resOf a.tmps); pure (if h : vs.size = 1 then vs[0] else .tuple vs)) := by
    unfold results; congr 1
  rw [e, hfn, List.mapM_toArray]
  simp only [Sem.run_bind, Sem.run_map, this, Result.andThen_ok, Sem.run_pure]
  match vs with
  | [] => rfl
  | [v] => rfl
  | v :: u :: r => simp [tup]
theorem ret_ret {fn : Func} {Post : Value → Heap → List HProp → Prop} {R B : List HProp} {rs : List ResultVar} {vs : List Value} {v : Value} (hfn : fn.results = rs.toArray) (hr : ResR P F L rs vs) (hv : tup vs = v)
    (hl : H0.le H) (hp : Post v H B) (hs : Sub L (B ++ R)) : Sat n W0 F H L (bodyPost P fn (RetOk W0 H0 Post R) .ret) :=
  fun _ _ hF hS => ⟨hF.defs, v, results_run hfn hr hv hF hS, v, H, B, rfl, hl, hp, hS.sub hs⟩
theorem ret_end {fn : Func} {Post : Value → Heap → List HProp → Prop} {R B : List HProp} {rs : List ResultVar} {vs : List Value} {v : Value} (hfn : fn.results = rs.toArray) (hr : ResR P F L rs vs) (hv : tup vs = v)
    (hl : H0.le H) (hp : Post v H B) (hs : Sub L (B ++ R)) : Sat n W0 F H L (bodyPost P fn (RetOk W0 H0 Post R) .normal) :=
  fun _ _ hF hS => ⟨hF.defs, v, results_run hfn hr hv hF hS, v, H, B, rfl, hl, hp, hS.sub hs⟩
theorem sat_freeze {b : Nat} {o : Obj} {R : List HProp} {G : Act → World → Prop} (hh : Has L (pt b o) R) (h : H b = none → Sat n W0 F (upd H b o) R G) : Sat n W0 F H L G :=
  fun a w hF hS => let h' := (hS.sub hh.to).freeze; h h'.1 a w hF h'.2
theorem sat_open {σ : Sort _} {A : σ → HProp} {R : List HProp} {G : Act → World → Prop} (hh : Has L (fun h => ∃ s, A s h) R) (h : ∀ s, Sat n W0 F H (A s :: R) G) : Sat n W0 F H L G := fun a w hF hS => by
  have hS' := hS.sub hh.to
  obtain ⟨x, ⟨h1, h2, ⟨s, hs⟩, hb, hd, l1, l2⟩, hx, hd'⟩ := hS'.own
  exact h s a w hF ⟨hS.env, hS.ro, x, ⟨h1, h2, hs, hb, hd, l1, l2⟩, hx, hd'⟩
theorem sat_pure {p : Prop} {A : HProp} {R : List HProp} {G : Act → World → Prop} (hh : Has L (fun h => p ∧ A h) R) (h : p → Sat n W0 F H (A :: R) G) : Sat n W0 F H L G := fun a w hF hS => by
  have hS' := hS.sub hh.to
  obtain ⟨x, ⟨h1, h2, ⟨hp, hs⟩, hb, hd, l1, l2⟩, hx, hd'⟩ := hS'.own
  exact h hp a w hF ⟨hS.env, hS.ro, x, ⟨h1, h2, hs, hb, hd, l1, l2⟩, hx, hd'⟩
end

/-! ### The ways out -/
section
variable {n : Nat} {W0 : World} {F : Slots} {H : Heap} {L : List HProp} {K : Act → World → Prop} {Q : Exit → Act → World → Prop}
theorem q_then (h : Sat n W0 F H L K) : Sat n W0 F H L (Exit.then K Q .normal) := h
theorem q_ret (h : Sat n W0 F H L (Q .ret)) : Sat n W0 F H L (Exit.then K Q .ret) := h
theorem q_exit {id : Nat} (h : Sat n W0 F H L (Q (.exit id))) : Sat n W0 F H L (Exit.then K Q (.exit id)) := h
theorem q_bnormal {id : Nat} (h : Sat n W0 F H L (Q .normal)) : Sat n W0 F H L (Exit.inBlock id Q .normal) := h
theorem q_bret {id : Nat} (h : Sat n W0 F H L (Q .ret)) : Sat n W0 F H L (Exit.inBlock id Q .ret) := h
theorem q_bexit {id : Nat} (h : Sat n W0 F H L (Q .normal)) : Sat n W0 F H L (Exit.inBlock id Q (.exit id)) := fun a w hF hS => by
  simp only [Exit.inBlock, if_true]; exact h a w hF hS
theorem q_bpass {id id' : Nat} (hne : Nat.beq id' id = false) (h : Sat n W0 F H L (Q (.exit id'))) : Sat n W0 F H L (Exit.inBlock id Q (.exit id')) := fun a w hF hS => by
  have : id' ≠ id := by intro e; subst e; simp at hne
  simp only [Exit.inBlock, this, if_false]; exact h a w hF hS
end

/-! ### A statement whose order is open -/
/-- the first m operations are done -/
def preDone (m : Nat) (listed : Array Bool) : Bool := (List.range m).all fun k => listed.getD k false
/-- operation j waits for operation i, itself or through others -/
def anc (ops : Array Oper) : Nat → Nat → Nat → Bool
  | 0, _, _ => false
  | f + 1, j, i => match ops[j]? with
    | some o => (o.after.any fun e => Region.binds .any e && e.on == i) || o.after.any fun e => Region.binds .any e && anc ops f e.on i
    | none => false
/-- every operation from m on waits for each before m -/
def barrier (ops : Array Oper) (m : Nat) : Bool := (List.range ops.size).all fun j => Nat.blt j m || (List.range m).all fun i => anc ops ops.size j i
/-- what is done has been done behind what it waits for -/
def closedOk (ops : Array Oper) (listed : Array Bool) : Bool := (List.range ops.size).all fun j => !(listed.getD j false) || match ops[j]? with
    | some o => o.after.all fun e => !Region.binds .any e || listed.getD e.on false
    | none => true
theorem closed_spec {ops : Array Oper} {listed : Array Bool} (h : closedOk ops listed = true) {j : Nat} {o : Oper} (hj : ops[j]? = some o) (hl : listed.getD j false = true) (e : Edge) (he : e ∈ o.after) (hb : Region.binds .any e = true) : listed.getD e.on false = true := by
  have hjs : j < ops.size := (Array.getElem?_eq_some_iff.1 hj).1
  have := (List.all_eq_true.1 h) j (List.mem_range.2 hjs)
  simp only [hl, hj, Bool.not_true, Bool.false_or] at this
  obtain ⟨k, hk, rfl⟩ := Array.getElem_of_mem he
  have := (Array.all_eq_true.1 this) k hk
  simpa [hb] using this
theorem closed_of {ops : Array Oper} {listed : Array Bool} (h : ∀ (j : Nat) (o : Oper), ops[j]? = some o → listed.getD j false = true → ∀ e ∈ o.after, Region.binds .any e = true → listed.getD e.on false = true) : closedOk ops listed = true := by
  refine List.all_eq_true.2 fun j hj => ?_
  cases hl : listed.getD j false with
  | false => rfl
  | true =>
    have hjs : j < ops.size := List.mem_range.1 hj
    simp only [Array.getElem?_eq_getElem hjs, Bool.not_true, Bool.false_or]
    refine Array.all_eq_true.2 fun k hk => ?_
    cases hb : Region.binds .any (ops[j].after[k]) with
    | false => rfl
    | true => simpa using h j _ (Array.getElem?_eq_getElem hjs) hl _ (Array.getElem_mem hk) hb
theorem anc_done {ops : Array Oper} {listed : Array Bool} (h : closedOk ops listed = true) : ∀ (f j i : Nat), anc ops f j i = true → (∀ o, ops[j]? = some o → ∀ e ∈ o.after, Region.binds .any e = true → listed.getD e.on false = true) → listed.getD i false = true := by
  intro f
  induction f with
  | zero => intro j i ha; simp [anc] at ha
  | succ f ih =>
    intro j i ha hd
    unfold anc at ha
    cases hj : ops[j]? with
    | none => simp [hj] at ha
    | some o =>
      simp only [hj, Bool.or_eq_true] at ha
      rcases ha with ha | ha
      · obtain ⟨k, hk, hk2⟩ := Array.any_eq_true.1 ha
        simp only [Bool.and_eq_true, beq_iff_eq] at hk2
        have hl := hd o hj _ (Array.getElem_mem hk) hk2.1
        rw [← hk2.2]; exact hl
      · obtain ⟨k, hk, hk2⟩ := Array.any_eq_true.1 ha
        simp only [Bool.and_eq_true] at hk2
        have hl := hd o hj _ (Array.getElem_mem hk) hk2.1
        exact ih _ i hk2.2 fun o' ho' e' he' hb' => closed_spec h ho' hl e' he' hb'
section
variable {P : Program} {ops : Array Oper} {Q : Exit → Act → World → Prop} {S : World → Prop} {m : Nat}
/-- whatever order comes; behind each of the first m operations S holds -/
def wpP (P : Program) (ops : Array Oper) (Q : Exit → Act → World → Prop) (S : World → Prop) (m : Nat) : Nat → Array Bool → Act → World → Prop
  | 0, listed, a, w => wpAny P .any ops Q 0 listed a w
  | fuel + 1, listed, a, w =>
    if preDone m listed then wpAny P .any ops Q (fuel + 1) listed a w else
    (Region.ready .any ops listed = [] → Q .normal a w) ∧
    ∀ i ∈ Region.ready .any ops listed, wpOp P ops Q i (fun a' w' => S w' ∧ wpP P ops Q S m fuel (listed.setIfInBounds i true) a' w') a w
theorem wpP_any : ∀ (fuel : Nat) (listed : Array Bool) (a : Act) (w : World), wpP P ops Q S m fuel listed a w → wpAny P .any ops Q fuel listed a w
  | 0, _, _, _, h => h
  | fuel + 1, listed, a, w, h => by
    unfold wpP at h
    split at h
    · exact h
    · exact ⟨h.1, fun i hi => wpOp_mono (fun a' w' h' => wpP_any fuel _ a' w' h'.2) (h.2 i hi)⟩
theorem not_pre {listed : Array Bool} {i : Nat} (hi : i < m) (hl : listed.getD i true = false) : preDone m listed = false := by
  have : listed.getD i false = false := by
    rcases Nat.lt_or_ge i listed.size with h | h
    · simp [h] at hl ⊢; exact hl
    · simp [Array.getElem?_eq_none h]
  simp only [preDone, List.all_eq_false]
  exact ⟨i, List.mem_range.2 hi, by simp [this]⟩
theorem wpP_first {i : Nat} {oi : Oper} {v : Value} (hi : ops[i]? = some oi) (him : i < m) (hsel : ∀ (j : Nat) (o : Oper) cs b, ops[j]? = some o → o.op ≠ .select cs b)
    (hQ : ∀ c a w, Q (.panic c) (a.put oi.dst v) w → Q (.panic c) a w) (hbar : barrier ops m = true) :
    ∀ (fuel : Nat) (listed : Array Bool) (a : Act) (w : World), closedOk ops listed = true →
      (∀ j oj, ops[j]? = some oj → j ≠ i → listed.getD j true = false → (∀ e ∈ oj.after, Region.binds .any e = true → e.on ≠ i) → oi.apart ops oj = true) →
      i ∈ Region.ready .any ops listed → YieldsIf P ops S oi v a → S w →
      wpP P ops Q S m fuel (listed.setIfInBounds i true) (a.put oi.dst v) w → wpP P ops Q S m (fuel + 1) listed a w := by
  intro fuel
  induction fuel with
  | zero =>
    intro listed a w _ _ hr hy hS H
    have hnp := not_pre him (mem_ready.1 hr).1
    unfold wpP
    rw [if_neg (by simp [hnp])]
    refine ⟨fun h => (by rw [h] at hr; cases hr), fun j hj => ?_⟩
    by_cases hji : j = i
    · subst hji; exact hy.wpOp hi hS ⟨hS, H⟩
    · have := ready_mono hj hji
      rw [(show wpAny P .any ops Q 0 _ _ _ from H).1] at this
      cases this
  | succ fuel ih =>
    intro listed a w hcl hfree hr hy hS H
    have hnp := not_pre him (mem_ready.1 hr).1
    unfold wpP
    rw [if_neg (by simp [hnp])]
    refine ⟨fun h => (by rw [h] at hr; cases hr), fun j hj => ?_⟩
    by_cases hji : j = i
    · subst hji; exact hy.wpOp hi hS ⟨hS, H⟩
    · obtain ⟨hjun, oj, hoj, hall⟩ := mem_ready.1 hj
      have hnot : ∀ e ∈ oj.after, Region.binds .any e = true → e.on ≠ i := fun e he hb heq => by
        have h1 := hall e he hb
        have h0 := (mem_ready.1 hr).1
        rw [heq] at h1
        rcases Nat.lt_or_ge i listed.size with h' | h'
        · simp [h'] at h0 h1; rw [h0] at h1; cases h1
        · simp [Array.getElem?_eq_none h'] at h1
      by_cases hdone : preDone m (listed.setIfInBounds i true) = true
      · -- all others of the first m are done: nothing else may come up
        exfalso
        by_cases hjm : j < m
        · have h3 := (List.all_eq_true.1 hdone) j (List.mem_range.2 hjm)
          have h4 : listed.getD j false = true := by rw [getD_set_ne false (Ne.symm hji)] at h3; exact h3
          rcases Nat.lt_or_ge j listed.size with h' | h'
          · simp [h'] at hjun h4; rw [hjun] at h4; cases h4
          · simp [Array.getElem?_eq_none h'] at h4
        · have hjs : j < ops.size := (Array.getElem?_eq_some_iff.1 hoj).1
          have hb := (List.all_eq_true.1 hbar) j (List.mem_range.2 hjs)
          simp only [Bool.or_eq_true, Nat.blt_eq] at hb
          rcases hb with hb | hb
          · exact hjm hb
          · have hb := (List.all_eq_true.1 hb) i (List.mem_range.2 him)
            have h3 := anc_done hcl _ j i hb fun o ho e he hbe => by
              rw [hoj] at ho; cases ho
              have := hall e he hbe
              exact this
            have h0 := (mem_ready.1 hr).1
            rcases Nat.lt_or_ge i listed.size with h' | h'
            · simp [h'] at h0 h3; rw [h3] at h0; cases h0
            · simp [Array.getElem?_eq_none h'] at h3
      · unfold wpP at H
        rw [if_neg hdone] at H
        have h1 := H.2 j (ready_mono hj hji)
        have h2 := wpOp_putIf hoj (hfree j oj hoj hji hjun hnot) (fun cs b => hsel i oi cs b hi) (fun cs b => hsel j oj cs b hoj) hQ hy h1
        have hfree' : ∀ k ok, ops[k]? = some ok → k ≠ i → (listed.setIfInBounds j true).getD k true = false →
            (∀ e ∈ ok.after, Region.binds .any e = true → e.on ≠ i) → oi.apart ops ok = true := fun k ok hk hki hun hno => by
          refine hfree k ok hk hki ?_ hno
          by_cases hjk : j = k
          · subst hjk; exact hjun
          · rw [getD_set_ne true hjk] at hun; exact hun
        have hcl' : closedOk ops (listed.setIfInBounds j true) = true := closed_of fun k o hk hl e he hb => by
          by_cases hjk : j = k
          · subst hjk
            rw [hoj] at hk; cases hk
            exact getD_set_true (hall e he hb)
          · rw [getD_set_ne false hjk] at hl
            exact getD_set_true (closed_spec hcl hk hl e he hb)
        refine wpOp_mono (fun a' w' h3 => ⟨h3.2.1, ih (listed.setIfInBounds j true) a' w' hcl' hfree' (ready_mono hr (Ne.symm hji)) h3.1 h3.2.1 ?_⟩) h2
        rw [Array.setIfInBounds_comm _ _ hji]
        exact h3.2.2
end
def takeOk (ops : Array Oper) (m : Nat) (listed : Array Bool) (i : Nat) : Bool :=
  Region.noSelect ops && Region.free .any ops listed i && (Region.ready .any ops listed).contains i && barrier ops m && Nat.blt i m && closedOk ops listed
/-- behind the first m operations the rest comes one by one, in the text's order -/
def tailOk (ops : Array Oper) (m : Nat) (listed : Array Bool) : Bool :=
  (listed == qlisted ops.size m) && (List.range ops.size).all (fun i => Nat.blt i m || (Region.ready .any ops (qlisted ops.size i) == [i])) && (Region.ready .any ops (qlisted ops.size ops.size)).isEmpty
section
variable {P : Program} {n : Nat} {W0 : World} {F : Slots} {H H0 : Heap} {L L0 : List HProp} {Q : Exit → Act → World → Prop} {ops : Array Oper} {fuel m : Nat} {listed : Array Bool}
/-- whatever order comes; H0, L0: what none of the first m operations changes -/
def Any (P : Program) (W0 : World) (H0 : Heap) (L0 : List HProp) (m : Nat) (ops : Array Oper) (Q : Exit → Act → World → Prop) (fuel : Nat) (listed : Array Bool) : Act → World → Prop :=
  wpP P ops Q (fun w => St W0 H0 w L0) m fuel listed
theorem any_start [hm : TMix P] {id : Nat} {l : List Oper} (m : Nat) (L0 : List HProp) (h : Sat n W0 F H L (Any P W0 H L0 m l.toArray Q l.length (Array.replicate l.length false))) :
    Sat n W0 F H L ((Code.region id l.toArray true).wp P Q) := fun a w hF hS => by
  refine wp_region_any hm.h (wpP_any _ _ _ _ (S := fun w => St W0 H w L0) (m := m) ?_)
  have := h a w.drew hF (hS.keep (hS.env.of rfl rfl rfl) rfl)
  simpa [Any] using this
theorem any_take (i : Nat) {d : Tmp} {op : Op} {ty : TypeId} {pos : String} {aft : Array Edge} {v : Value} (hi : ops[i]? = some ⟨some d, op, ty, pos, aft, none⟩) (hok : takeOk ops m listed i = true)
    (hQ : ∀ c a w, Q (.panic c) (a.put (some d) v) w → Q (.panic c) a w) (hl : H0.le H) (hsub : Sub L L0) (hd : Nat.blt d n = true)
    (hv : OpP P n W0 ⟨some d, op, ty, pos, aft, none⟩ F H0 L0 v)
    (h : Sat n W0 ((d, v) :: F) H L (Any P W0 H0 L0 m ops Q fuel (listed.setIfInBounds i true))) : Sat n W0 F H L (Any P W0 H0 L0 m ops Q (fuel + 1) listed) := fun a w hF hS => by
  simp only [takeOk, Bool.and_eq_true, Nat.blt_eq] at hok
  obtain ⟨⟨⟨⟨⟨h1, h2⟩, h3⟩, h4⟩, h5⟩, h6⟩ := hok
  exact wpP_first hi h5 (Region.noSelect_spec h1) hQ h4 fuel listed a w h6 (Region.free_spec hi h2) (by simpa using h3) (.inl ⟨by simp [Region.wanted], fun w' hw' => hv.run a w' hF hw'⟩) ((hS.weak hl).sub hsub) (h _ w (hF.put hd v) hS)
/-- one operation that may come up, carried out -/
def AnyAt (P : Program) (n : Nat) (W0 : World) (F : Slots) (H H0 : Heap) (L L0 : List HProp) (m : Nat) (ops : Array Oper) (Q : Exit → Act → World → Prop) (fuel : Nat) (listed : Array Bool) (i : Nat) : Prop :=
  Sat n W0 F H L (wpOp P ops Q i (fun a' w' => St W0 H0 w' L0 ∧ Any P W0 H0 L0 m ops Q fuel (listed.setIfInBounds i true) a' w'))
theorem any_all {rs : List Nat} (hr : Region.ready .any ops listed = rs) (hne : rs ≠ []) (h : ∀ i ∈ rs, AnyAt P n W0 F H H0 L L0 m ops Q fuel listed i) : Sat n W0 F H L (Any P W0 H0 L0 m ops Q (fuel + 1) listed) :=
  fun a w hF hS => by
    unfold Any wpP
    split
    · exact ⟨fun h0 => absurd (hr ▸ h0) hne, fun i hi => wpOp_mono (fun a' w' h' => wpP_any fuel _ a' w' h'.2) (h i (hr ▸ hi) a w hF hS)⟩
    · exact ⟨fun h0 => absurd (hr ▸ h0) hne, fun i hi => h i (hr ▸ hi) a w hF hS⟩
theorem any_one {i : Nat} (hr : Region.ready .any ops listed = [i]) (h : AnyAt P n W0 F H H0 L L0 m ops Q fuel listed i) : Sat n W0 F H L (Any P W0 H0 L0 m ops Q (fuel + 1) listed) :=
  any_all hr (by simp) (by simpa using h)
theorem any_two {i j : Nat} (hr : Region.ready .any ops listed = [i, j]) (h : AnyAt P n W0 F H H0 L L0 m ops Q fuel listed i) (h' : AnyAt P n W0 F H H0 L L0 m ops Q fuel listed j) : Sat n W0 F H L (Any P W0 H0 L0 m ops Q (fuel + 1) listed) :=
  any_all hr (by simp) (by simpa using ⟨h, h'⟩)
theorem any_three {i j k : Nat} (hr : Region.ready .any ops listed = [i, j, k]) (h : AnyAt P n W0 F H H0 L L0 m ops Q fuel listed i) (h' : AnyAt P n W0 F H H0 L L0 m ops Q fuel listed j) (h'' : AnyAt P n W0 F H H0 L L0 m ops Q fuel listed k) :
    Sat n W0 F H L (Any P W0 H0 L0 m ops Q (fuel + 1) listed) := any_all hr (by simp) (by simpa using ⟨h, h', h''⟩)
inductive RestR : Nat → List Oper → List Oper → Prop
  | zero {l : List Oper} : RestR 0 l l
  | succ {k : Nat} {x : Oper} {l r : List Oper} : RestR k l r → RestR (k + 1) (x :: l) r
theorem RestR.eq {k : Nat} {l r : List Oper} (h : RestR k l r) : l.drop k = r := by
  induction h with
  | zero => rfl
  | succ _ ih => simpa using ih
/-- the rest, one by one -/
theorem any_tail {l rest : List Oper} (hok : tailOk l.toArray m listed = true) (hrest : l.drop m = rest) (hfuel : fuel = rest.length) (h : SL false P n W0 F H L l.toArray Q rest) : Sat n W0 F H L (Any P W0 H0 L0 m l.toArray Q fuel listed) := fun a w hF hS => by
  have hrest : l.toArray.toList.drop m = rest := hrest
  generalize l.toArray = ops at *
  simp only [tailOk, Bool.and_eq_true, List.all_eq_true, List.mem_range, beq_iff_eq] at hok
  obtain ⟨⟨h1, h2⟩, h3⟩ := hok
  subst h1
  have key : ∀ (rest : List Oper) (i : Nat) (a : Act) (w : World), m ≤ i → i + rest.length = ops.size → (∀ j, rest[j]? = ops[i + j]?) → wpList P ops Q rest a w → wpAny P .any ops Q rest.length (qlisted ops.size i) a w := by
    intro rest
    induction rest with
    | nil =>
      intro i a w _ hl _ h
      have : i = ops.size := by simpa using hl
      subst this
      exact ⟨List.isEmpty_iff.1 h3, h⟩
    | cons o r ih =>
      intro i a w hmi hl hr h
      have hi : ops[i]? = some o := by have := hr 0; simpa using this.symm
      have hlt : i < ops.size := by simp at hl; omega
      have hrd : Region.ready .any ops (qlisted ops.size i) = [i] := by
        have := h2 i hlt
        simp only [Bool.or_eq_true, Nat.blt_eq, beq_iff_eq] at this
        rcases this with h | h
        · omega
        · exact h
      refine ⟨fun h0 => (by rw [hrd] at h0; cases h0), fun j hj => ?_⟩
      rw [hrd] at hj
      obtain rfl : j = i := by simpa using hj
      have hnext := fun a w => ih (j + 1) a w (by omega) (by simp at hl; omega) (fun k => by have := hr (k + 1); rw [List.getElem?_cons_succ] at this; rw [this]; congr 1; omega)
      unfold wpOp
      simp only [hi]
      unfold wpList at h
      split
      · rename_i hw
        rw [if_pos hw] at h
        exact h.imp (fun h => Oper.wp_mono (fun a w => hnext a w) h) id
      · rename_i hw
        rw [if_neg hw] at h
        exact hnext _ _ h
  subst hrest
  rcases Nat.lt_or_ge ops.size m with hm | hm
  · have he : ops.toList.drop m = [] := List.drop_eq_nil_of_le (by simp; omega)
    have hq : qlisted ops.size m = qlisted ops.size ops.size := by
      have : ∀ k, ops.size ≤ k → qlisted ops.size k = qlisted ops.size ops.size := by
        intro k hk
        induction k with
        | zero => have : ops.size = 0 := by omega
                  rw [this]
        | succ k ih =>
          by_cases hk' : ops.size ≤ k
          · rw [qlisted, ih hk']
            have hsz : ∀ j, (qlisted ops.size j).size = ops.size := fun j => by induction j with | zero => simp [qlisted] | succ j ih => simp [qlisted, ih]
            apply Array.setIfInBounds_eq_of_size_le
            rw [hsz]; exact hk'
          · have : k + 1 = ops.size := by omega
            rw [this]
      exact this m (by omega)
    rw [he] at h hfuel
    simp only [List.length_nil] at hfuel
    subst hfuel
    exact (show wpP P ops Q _ m 0 _ a w from ⟨by rw [hq]; exact List.isEmpty_iff.1 h3, h a w hF hS⟩)
  · have hk := key (ops.toList.drop m) m a w (Nat.le_refl _) (by simp; omega) (fun j => by simp) (h a w hF hS)
    rw [← hfuel] at hk
    unfold Any
    cases fuel with
    | zero => exact hk
    | succ f =>
      unfold wpP
      have hsz : ∀ j, (qlisted ops.size j).size = ops.size := fun j => by induction j with | zero => simp [qlisted] | succ j ih => simp [qlisted, ih]
      have hpre : preDone m (qlisted ops.size m) = true := by
        have : ∀ k j, j < k → k ≤ ops.size → (qlisted ops.size k).getD j false = true := by
          intro k
          induction k with
          | zero => intro j hj; omega
          | succ k ih =>
            intro j hj hks
            simp only [qlisted]
            by_cases e : j = k
            · subst e
              have hlt : j < ops.size := by omega
              simp [hsz, hlt]
            · rw [getD_set_ne false (Ne.symm e)]; exact ih j (by omega) (by omega)
        exact List.all_eq_true.2 fun j hj => this m j (List.mem_range.1 hj) hm
      rw [if_pos hpre]
      exact hk
theorem at_some {i : Nat} {d : Tmp} {op : Op} {ty : TypeId} {pos : String} {aft : Array Edge} (hi : ops[i]? = some ⟨some d, op, ty, pos, aft, none⟩) (hd : Nat.blt d n = true)
    (h : OpW P n W0 ⟨some d, op, ty, pos, aft, none⟩ F H L (fun v H' L' => H0.le H' ∧ Sub L' L0 ∧ Sat n W0 ((d, v) :: F) H' L' (Any P W0 H0 L0 m ops Q fuel (listed.setIfInBounds i true)))) :
    AnyAt P n W0 F H H0 L L0 m ops Q fuel listed i := fun a w hF hS => by
  unfold wpOp
  simp only [hi]
  rw [if_pos (by simp [Region.wanted])]
  exact .inl (h a w _ Q hF hS fun v H' L' w' _ ⟨h1, h2, h3⟩ hs => ⟨(hs.weak h1).sub h2, h3 _ _ (hF.put hd v) hs⟩)
theorem at_none {i : Nat} {op : Op} {ty : TypeId} {pos : String} {aft : Array Edge} (hi : ops[i]? = some ⟨none, op, ty, pos, aft, none⟩)
    (h : OpW P n W0 ⟨none, op, ty, pos, aft, none⟩ F H L (fun _ H' L' => H0.le H' ∧ Sub L' L0 ∧ Sat n W0 F H' L' (Any P W0 H0 L0 m ops Q fuel (listed.setIfInBounds i true)))) :
    AnyAt P n W0 F H H0 L L0 m ops Q fuel listed i := fun a w hF hS => by
  unfold wpOp
  simp only [hi]
  rw [if_pos (by simp [Region.wanted])]
  exact .inl (h a w _ Q hF hS fun v H' L' w' _ ⟨h1, h2, h3⟩ hs => ⟨(hs.weak h1).sub h2, h3 _ _ (hF.put0 v) hs⟩)
end
end Go.Sx
