/- A drawn region, whatever order comes: any operations of one's own, over carriers. No program in sight. -/
import Derived.Test.YtafhinjggdknjaaDoorPSx7
import Derived.OrdersHeld
set_option linter.unusedVariables false
set_option linter.unusedSimpArgs false
namespace Go.Sx
open Go Go.X
theorem OpP.toS {P : Program} {n : NF} {W0 : GW} {F : Slots} {H : Heap} {L : List HProp} {o : Oper} {v : Value} (h : OpP P n o F H L v) {a : Act} {w : GW} (hF : FrOk n a F) (hS : StG W0 H w L) : o.yV P a.eval w fun v' w' => v' = v ∧ w' = w := by
  intro Wr hsm w1 he hl hpl
  obtain ⟨h1, h2⟩ := run_same (h.calm a hF) (fun {W1} w hS => h.run a w hF hS) hS hsm w1 he hl hpl
  rw [h1]
  exact ⟨hp w.toWorld, ⟨fun _ _ _ => rfl, Nat.le_refl _, rfl, rfl, rfl, fun e he => (h2 e he).1, fun e he => (h2 e he).2⟩, hl, fun _ hb => .inl hb, w, rep_xw hsm, rfl, rfl⟩
def preDone (m : Nat) (listed : Array Bool) : Bool := (List.range m).all fun k => listed.getD k false
def anc (ops : Array Oper) : Nat → Nat → Nat → Bool
  | 0, _, _ => false
  | f + 1, j, i => match ops[j]? with
    | some o => (o.after.any fun e => Region.binds .any e && e.on == i) || o.after.any fun e => Region.binds .any e && anc ops f e.on i
    | none => false
def barrierL (ops : Array Oper) (m : Nat) (listed : Array Bool) : Bool := (List.range ops.size).all fun j => Nat.blt j m || listed.getD j true || (List.range m).all fun i => listed.getD i true || anc ops ops.size j i
theorem getD_set_true' {listed : Array Bool} {j k : Nat} (h : listed.getD k true = true) : (listed.setIfInBounds j true).getD k true = true := by
  by_cases hjk : j = k
  · subst hjk
    rcases Nat.lt_or_ge j listed.size with h' | h'
    · simp [h']
    · simp
  · simpa [Array.getElem?_setIfInBounds, hjk] using h
theorem barrierL_set {ops : Array Oper} {m j : Nat} {listed : Array Bool} (h : barrierL ops m listed = true) : barrierL ops m (listed.setIfInBounds j true) = true := by
  refine List.all_eq_true.2 fun k hk => ?_
  have h1 := (List.all_eq_true.1 h) k hk
  simp only [Bool.or_eq_true] at h1 ⊢
  rcases h1 with (h1 | h1) | h1
  · exact .inl (.inl h1)
  · exact .inl (.inr (getD_set_true' h1))
  · refine .inr (List.all_eq_true.2 fun i hi => ?_)
    have h2 := (List.all_eq_true.1 h1) i hi
    simp only [Bool.or_eq_true] at h2 ⊢
    exact h2.imp getD_set_true' id
def closedOk (ops : Array Oper) (listed : Array Bool) : Bool := (List.range ops.size).all fun j => !(listed.getD j false) || match ops[j]? with
    | some o => o.after.all fun e => !Region.binds .any e || listed.getD e.on false
    | none => true
theorem closed_spec {ops : Array Oper} {listed : Array Bool} (h : closedOk ops listed = true) {j : Nat} {o : Oper} (hj : ops[j]? = some o) (hl : listed.getD j false = true) (e : Edge) (he : e ∈ o.after) (hb : Region.binds .any e = true) : listed.getD e.on false = true := by
  have hjs : j < ops.size := (Array.getElem?_eq_some_iff.1 hj).1
  have := (List.all_eq_true.1 h) j (List.mem_range.2 hjs)
  simp only [hl, hj, Bool.not_true, Bool.false_or] at this
  obtain ⟨k, hk, rfl⟩ := Array.getElem_of_mem he
  have := (Array.all_eq_true.1 this) k hk
  simpa [hb] using this
theorem closed_of {ops : Array Oper} {listed : Array Bool} (h : ∀ (j : Nat) (o : Oper), ops[j]? = some o → listed.getD j false = true → ∀ e ∈ o.after, Region.binds .any e = true → listed.getD e.on false = true) : closedOk ops listed = true := by
  refine List.all_eq_true.2 fun j hj => ?_
  cases hl : listed.getD j false with
  | false => rfl
  | true =>
    have hjs : j < ops.size := List.mem_range.1 hj
    simp only [Array.getElem?_eq_getElem hjs, Bool.not_true, Bool.false_or]
    refine Array.all_eq_true.2 fun k hk => ?_
    cases hb : Region.binds .any (ops[j].after[k]) with
    | false => rfl
    | true => simpa using h j _ (Array.getElem?_eq_getElem hjs) hl _ (Array.getElem_mem hk) hb
theorem anc_done {ops : Array Oper} {listed : Array Bool} (h : closedOk ops listed = true) : ∀ (f j i : Nat), anc ops f j i = true → (∀ o, ops[j]? = some o → ∀ e ∈ o.after, Region.binds .any e = true → listed.getD e.on false = true) → listed.getD i false = true := by
  intro f
  induction f with
  | zero => intro j i ha; simp [anc] at ha
  | succ f ih =>
    intro j i ha hd
    unfold anc at ha
    cases hj : ops[j]? with
    | none => simp [hj] at ha
    | some o =>
      simp only [hj, Bool.or_eq_true] at ha
      rcases ha with ha | ha
      · obtain ⟨k, hk, hk2⟩ := Array.any_eq_true.1 ha
        simp only [Bool.and_eq_true, beq_iff_eq] at hk2
        have hl := hd o hj _ (Array.getElem_mem hk) hk2.1
        rw [← hk2.2]; exact hl
      · obtain ⟨k, hk, hk2⟩ := Array.any_eq_true.1 ha
        simp only [Bool.and_eq_true] at hk2
        have hl := hd o hj _ (Array.getElem_mem hk) hk2.1
        exact ih _ i hk2.2 fun o' ho' e' he' hb' => closed_spec h ho' hl e' he' hb'
section
variable {P : Program} {ops : Array Oper} {Q : Exit → Act → GW → Prop} {S : GW → Prop} {m : Nat}
def wpOpY (P : Program) (ops : Array Oper) (i : Nat) (K : Act → GW → Prop) (a : Act) (w : GW) : Prop := match ops[i]? with
  | none => False
  | some o => if Region.wanted o (yielded ops a.tmps) then o.yV P a.eval w (fun v w' => K (a.put o.dst v) w') else K (a.put o.dst undef) w
theorem wpOpY_mono {i : Nat} {K K' : Act → GW → Prop} {a : Act} {w : GW} (hk : ∀ a w, K a w → K' a w) (h : wpOpY P ops i K a w) : wpOpY P ops i K' a w := by
  unfold wpOpY at *
  cases ho : ops[i]? with
  | none => simp only [ho] at h
  | some o =>
    simp only [ho] at h ⊢
    split
    · rename_i hw; rw [if_pos hw] at h; exact YV.mono h fun v w' h => hk _ _ h
    · rename_i hw; rw [if_neg hw] at h; exact hk _ _ h
def AnyRun (P : Program) (ops : Array Oper) (Q : Exit → Act → GW → Prop) (fuel : Nat) (listed : Array Bool) (a : Act) (w : GW) : Prop := ∀ t, wpOpsV P ops Q (Region.linearise.go .any ops fuel t listed []) a w
theorem anyRun_zero {listed : Array Bool} {a : Act} {w : GW} (h : Q .normal a w) : AnyRun P ops Q 0 listed a w := fun t => wpOpsV_nil h
theorem anyRun_go {fuel : Nat} {listed : Array Bool} {a : Act} {w : GW} (hn : Region.ready .any ops listed = [] → Q .normal a w)
    (hs : ∀ i, i ∈ Region.ready .any ops listed → ∀ t', wpOpsV P ops Q (i :: Region.linearise.go .any ops fuel t' (listed.setIfInBounds i true) []) a w) : AnyRun P ops Q (fuel + 1) listed a w := fun t => by
  simp only [Region.linearise.go]
  change wpOpsV P ops Q (match (Region.ready .any ops listed)[t % (Region.ready .any ops listed).length]? with
    | some i => Region.linearise.go .any ops fuel (t / (Region.ready .any ops listed).length) (listed.setIfInBounds i true) [i]
    | none => [].reverse) a w
  cases hi : (Region.ready .any ops listed)[t % (Region.ready .any ops listed).length]? with
  | none =>
    have hnil : Region.ready .any ops listed = [] := by
      cases hr : Region.ready .any ops listed with
      | nil => rfl
      | cons x xs =>
        rw [hr] at hi
        have hlt : t % (x :: xs).length < (x :: xs).length := Nat.mod_lt _ (by simp)
        simp only [List.getElem?_eq_getElem hlt] at hi
        cases hi
    exact wpOpsV_nil (hn hnil)
  | some i =>
    simp only []
    rw [linearise_go_acc, List.reverse_singleton, List.singleton_append]
    exact hs i (List.mem_of_getElem? hi) _
theorem anyRun_step {fuel : Nat} {listed : Array Bool} {a : Act} {w : GW} (hn : Region.ready .any ops listed = [] → Q .normal a w)
    (hs : ∀ i, i ∈ Region.ready .any ops listed → wpOpY P ops i (AnyRun P ops Q fuel (listed.setIfInBounds i true)) a w) : AnyRun P ops Q (fuel + 1) listed a w := anyRun_go hn fun i hi t' => by
  have h2 := hs i hi
  unfold wpOpY at h2
  cases ho : ops[i]? with
  | none => simp only [ho] at h2
  | some o =>
    simp only [ho] at h2
    by_cases hw : Region.wanted o (yielded ops a.tmps) = true
    · rw [if_pos hw] at h2
      exact wpOpsV_cons ho hw (wpV_of_yV (YV.mono h2 fun v w' h => h _))
    · rw [if_neg hw] at h2
      exact wpOpsV_unwanted ho (by simpa using hw) (h2 _)
theorem wpV_region_any {id : Nat} {a : Act} {w : GW} (hm : P.follows .mixedOrders = true) (h : AnyRun P ops Q ops.size (Array.replicate ops.size false) a w) : (Code.region id ops true).wpV P Q a w :=
  wpV_region_draw fun t => by
    simp only [Region.schedule, hm, Bool.true_or, if_true]
    exact h t
def YieldsY (P : Program) (ops : Array Oper) (S : GW → Prop) (o : Oper) (v : Value) (a : Act) : Prop :=
  (Region.wanted o (yielded ops a.tmps) = true ∧ ∀ w, S w → o.yV P a.eval w fun v' w' => v' = v ∧ w' = w) ∨ (Region.wanted o (yielded ops a.tmps) = false ∧ v = undef)
theorem YieldsY.wpOp {i : Nat} {o : Oper} {v : Value} {a : Act} (hi : ops[i]? = some o) (hy : YieldsY P ops S o v a) {K : Act → GW → Prop} {w : GW} (hS : S w) (h : K (a.put o.dst v) w) : wpOpY P ops i K a w := by
  unfold wpOpY
  simp only [hi]
  rcases hy with ⟨hw, hv⟩ | ⟨hw, rfl⟩
  · rw [if_pos hw]; exact YV.mono (hv w hS) fun v' w' ⟨e1, e2⟩ => by rw [e1, e2]; exact h
  · rw [if_neg (by simp [hw])]; exact h
theorem YieldsY.of_same {o : Oper} {v : Value} {a a' : Act} (hy : YieldsY P ops S o v a) (he : execOp a'.eval o = execOp a.eval o)
    (hw : Region.wanted o (yielded ops a'.tmps) = Region.wanted o (yielded ops a.tmps)) : YieldsY P ops S o v a' := by
  unfold YieldsY Oper.yV Oper.yX at *
  rw [he, hw]
  exact hy
theorem yV_same {o : Oper} {ρ ρ' : Operand → Value} {w : GW} {R : Value → GW → Prop} (he : execOp ρ' o = execOp ρ o) (h : o.yV P ρ w R) : o.yV P ρ' w R := by
  unfold Oper.yV Oper.yX at *
  rw [he]
  exact h
theorem wpOpY_put {j : Nat} {oi oj : Oper} {v : Value} (hj : ops[j]? = some oj) (hap : oi.apart ops oj = true) (hsi : ∀ cs b, oi.op ≠ .select cs b) (hsj : ∀ cs b, oj.op ≠ .select cs b) {K : Act → GW → Prop} {a : Act} {w : GW}
    (hy : YieldsY P ops S oi v a) (h : wpOpY P ops j K (a.put oi.dst v) w) : wpOpY P ops j (fun a' w' => YieldsY P ops S oi v a' ∧ K (a'.put oi.dst v) w') a w := by
  obtain ⟨h1, h2, h3⟩ := Oper.apart_spec hap
  have keep : ∀ u, YieldsY P ops S oi v (a.put oj.dst u) := fun u => hy.of_same (execOp_put oi hsi a oj.dst u h3) (wanted_put oi a oj.dst u h3)
  unfold wpOpY at *
  simp only [hj] at *
  rw [wanted_put oj a oi.dst v h1] at h
  split
  · rename_i hw
    rw [if_pos hw] at h
    exact YV.mono (yV_same (execOp_put oj hsj a oi.dst v h1).symm h) fun u w' h => ⟨keep u, by rw [← Act.put_comm a v u h2]; exact h⟩
  · rename_i hw
    rw [if_neg hw] at h
    exact ⟨keep _, by rw [← Act.put_comm a v undef h2]; exact h⟩
def wpP (P : Program) (ops : Array Oper) (Q : Exit → Act → GW → Prop) (S : GW → Prop) (m : Nat) : Nat → Array Bool → Act → GW → Prop
  | 0, listed, a, w => Region.ready .any ops listed = [] ∧ Q .normal a w
  | fuel + 1, listed, a, w =>
    if preDone m listed then AnyRun P ops Q (fuel + 1) listed a w else
    (Region.ready .any ops listed = [] → Q .normal a w) ∧
    ∀ i ∈ Region.ready .any ops listed, wpOpY P ops i (fun a' w' => S w' ∧ wpP P ops Q S m fuel (listed.setIfInBounds i true) a' w') a w
theorem wpP_any : ∀ (fuel : Nat) (listed : Array Bool) (a : Act) (w : GW), wpP P ops Q S m fuel listed a w → AnyRun P ops Q fuel listed a w
  | 0, _, _, _, h => anyRun_zero h.2
  | fuel + 1, listed, a, w, h => by
    unfold wpP at h
    split at h
    · exact h
    · exact anyRun_step h.1 fun i hi => wpOpY_mono (fun a' w' h' => wpP_any fuel _ a' w' h'.2) (h.2 i hi)
theorem not_pre {listed : Array Bool} {i : Nat} (hi : i < m) (hl : listed.getD i true = false) : preDone m listed = false := by
  have : listed.getD i false = false := by
    rcases Nat.lt_or_ge i listed.size with h | h
    · simp [h] at hl ⊢; exact hl
    · simp [Array.getElem?_eq_none h]
  simp only [preDone, List.all_eq_false]
  exact ⟨i, List.mem_range.2 hi, by simp [this]⟩
theorem wpP_first {i : Nat} {oi : Oper} {v : Value} (hi : ops[i]? = some oi) (him : i < m) (hsel : ∀ (j : Nat) (o : Oper) cs b, ops[j]? = some o → o.op ≠ .select cs b)
    :
    ∀ (fuel : Nat) (listed : Array Bool) (a : Act) (w : GW), barrierL ops m listed = true → closedOk ops listed = true →
      (∀ j oj, ops[j]? = some oj → j ≠ i → listed.getD j true = false → (∀ e ∈ oj.after, Region.binds .any e = true → e.on ≠ i) → oi.apart ops oj = true) →
      i ∈ Region.ready .any ops listed → YieldsY P ops S oi v a → S w →
      wpP P ops Q S m fuel (listed.setIfInBounds i true) (a.put oi.dst v) w → wpP P ops Q S m (fuel + 1) listed a w := by
  intro fuel
  induction fuel with
  | zero =>
    intro listed a w hbar _ _ hr hy hS H
    have hnp := not_pre him (mem_ready.1 hr).1
    unfold wpP
    rw [if_neg (by simp [hnp])]
    refine ⟨fun h => (by rw [h] at hr; cases hr), fun j hj => ?_⟩
    by_cases hji : j = i
    · subst hji; exact hy.wpOp hi hS ⟨hS, H⟩
    · have := ready_mono hj hji
      rw [(show Region.ready .any ops _ = [] ∧ _ from H).1] at this
      cases this
  | succ fuel ih =>
    intro listed a w hbar hcl hfree hr hy hS H
    have hnp := not_pre him (mem_ready.1 hr).1
    unfold wpP
    rw [if_neg (by simp [hnp])]
    refine ⟨fun h => (by rw [h] at hr; cases hr), fun j hj => ?_⟩
    by_cases hji : j = i
    · subst hji; exact hy.wpOp hi hS ⟨hS, H⟩
    · obtain ⟨hjun, oj, hoj, hall⟩ := mem_ready.1 hj
      have hnot : ∀ e ∈ oj.after, Region.binds .any e = true → e.on ≠ i := fun e he hb heq => by
        have h1 := hall e he hb
        have h0 := (mem_ready.1 hr).1
        rw [heq] at h1
        rcases Nat.lt_or_ge i listed.size with h' | h'
        · simp [h'] at h0 h1; rw [h0] at h1; cases h1
        · simp [Array.getElem?_eq_none h'] at h1
      by_cases hdone : preDone m (listed.setIfInBounds i true) = true
      · -- all others of the first m are done: nothing else may come up
        exfalso
        by_cases hjm : j < m
        · have h3 := (List.all_eq_true.1 hdone) j (List.mem_range.2 hjm)
          have h4 : listed.getD j false = true := by rw [getD_set_ne false (Ne.symm hji)] at h3; exact h3
          rcases Nat.lt_or_ge j listed.size with h' | h'
          · simp [h'] at hjun h4; rw [hjun] at h4; cases h4
          · simp [Array.getElem?_eq_none h'] at h4
        · have hjs : j < ops.size := (Array.getElem?_eq_some_iff.1 hoj).1
          have hb := (List.all_eq_true.1 hbar) j (List.mem_range.2 hjs)
          simp only [Bool.or_eq_true, Nat.blt_eq] at hb
          rcases hb with (hb | hb) | hb
          · exact hjm hb
          · rw [hjun] at hb; cases hb
          · have hb := (List.all_eq_true.1 hb) i (List.mem_range.2 him)
            rw [(mem_ready.1 hr).1, Bool.false_or] at hb
            have h3 := anc_done hcl _ j i hb fun o ho e he hbe => by
              rw [hoj] at ho; cases ho
              have := hall e he hbe
              exact this
            have h0 := (mem_ready.1 hr).1
            rcases Nat.lt_or_ge i listed.size with h' | h'
            · simp [h'] at h0 h3; rw [h3] at h0; cases h0
            · simp [Array.getElem?_eq_none h'] at h3
      · unfold wpP at H
        rw [if_neg hdone] at H
        have h1 := H.2 j (ready_mono hj hji)
        have h2 := wpOpY_put hoj (hfree j oj hoj hji hjun hnot) (fun cs b => hsel i oi cs b hi) (fun cs b => hsel j oj cs b hoj) hy h1
        have hfree' : ∀ k ok, ops[k]? = some ok → k ≠ i → (listed.setIfInBounds j true).getD k true = false →
            (∀ e ∈ ok.after, Region.binds .any e = true → e.on ≠ i) → oi.apart ops ok = true := fun k ok hk hki hun hno => by
          refine hfree k ok hk hki ?_ hno
          by_cases hjk : j = k
          · subst hjk; exact hjun
          · rw [getD_set_ne true hjk] at hun; exact hun
        have hcl' : closedOk ops (listed.setIfInBounds j true) = true := closed_of fun k o hk hl e he hb => by
          by_cases hjk : j = k
          · subst hjk
            rw [hoj] at hk; cases hk
            exact getD_set_true (hall e he hb)
          · rw [getD_set_ne false hjk] at hl
            exact getD_set_true (closed_spec hcl hk hl e he hb)
        refine wpOpY_mono (fun a' w' h3 => ⟨h3.2.1, ih (listed.setIfInBounds j true) a' w' (barrierL_set hbar) hcl' hfree' (ready_mono hr (Ne.symm hji)) h3.1 h3.2.1 ?_⟩) h2
        rw [Array.setIfInBounds_comm _ _ hji]
        exact h3.2.2
end
def takeOk (ops : Array Oper) (m : Nat) (listed : Array Bool) (i : Nat) : Bool :=
  Region.noSelect ops && Region.free .any ops listed i && (Region.ready .any ops listed).contains i && barrierL ops m listed && Nat.blt i m && closedOk ops listed
def tailOk (ops : Array Oper) (m : Nat) (listed : Array Bool) : Bool :=
  (listed == qlisted ops.size m) && (List.range ops.size).all (fun i => Nat.blt i m || (Region.ready .any ops (qlisted ops.size i) == [i])) && (Region.ready .any ops (qlisted ops.size ops.size)).isEmpty
section
variable {P : Program} {n : NF} {W0 : GW} {F : Slots} {H H0 : Heap} {L L0 : List HProp} {Q : Exit → Act → GW → Prop} {ops : Array Oper} {fuel m : Nat} {listed : Array Bool}
def Any (P : Program) (W0 : GW) (H0 : Heap) (L0 : List HProp) (m : Nat) (ops : Array Oper) (Q : Exit → Act → GW → Prop) (fuel : Nat) (listed : Array Bool) : Act → GW → Prop :=
  wpP P ops Q (fun w => StG W0 H0 w L0) m fuel listed
theorem any_start [hm : TMix P] {id : Nat} {l : List Oper} (m : Nat) (L0 : List HProp) (h : Sat n W0 F H L (Any P W0 H L0 m l.toArray Q l.length (Array.replicate l.length false))) :
    Sat n W0 F H L ((Code.region id l.toArray true).wpV P Q) := fun a w hF hS => by
  refine wpV_region_any hm.h (wpP_any _ _ _ _ (S := fun w => StG W0 H w L0) (m := m) ?_)
  have := h a w hF hS
  simpa [Any] using this
def AnyAt (P : Program) (n : NF) (W0 : GW) (F : Slots) (H H0 : Heap) (L L0 : List HProp) (m : Nat) (ops : Array Oper) (Q : Exit → Act → GW → Prop) (fuel : Nat) (listed : Array Bool) (i : Nat) : Prop :=
  Sat n W0 F H L (wpOpY P ops i (fun a' w' => StG W0 H0 w' L0 ∧ Any P W0 H0 L0 m ops Q fuel (listed.setIfInBounds i true) a' w'))
theorem any_all {rs : List Nat} (hr : Region.ready .any ops listed = rs) (hne : rs ≠ []) (h : ∀ i ∈ rs, AnyAt P n W0 F H H0 L L0 m ops Q fuel listed i) : Sat n W0 F H L (Any P W0 H0 L0 m ops Q (fuel + 1) listed) :=
  fun a w hF hS => by
    unfold Any wpP
    split
    · exact anyRun_step (fun h0 => absurd (hr ▸ h0) hne) fun i hi => wpOpY_mono (fun a' w' h' => wpP_any fuel _ a' w' h'.2) (h i (hr ▸ hi) a w hF hS)
    · exact ⟨fun h0 => absurd (hr ▸ h0) hne, fun i hi => h i (hr ▸ hi) a w hF hS⟩
theorem any_one {i : Nat} (hr : Region.ready .any ops listed = [i]) (h : AnyAt P n W0 F H H0 L L0 m ops Q fuel listed i) : Sat n W0 F H L (Any P W0 H0 L0 m ops Q (fuel + 1) listed) :=
  any_all hr (by simp) (by simpa using h)
theorem any_two {i j : Nat} (hr : Region.ready .any ops listed = [i, j]) (h : AnyAt P n W0 F H H0 L L0 m ops Q fuel listed i) (h' : AnyAt P n W0 F H H0 L L0 m ops Q fuel listed j) : Sat n W0 F H L (Any P W0 H0 L0 m ops Q (fuel + 1) listed) :=
  any_all hr (by simp) (by simpa using ⟨h, h'⟩)
theorem any_three {i j k : Nat} (hr : Region.ready .any ops listed = [i, j, k]) (h : AnyAt P n W0 F H H0 L L0 m ops Q fuel listed i) (h' : AnyAt P n W0 F H H0 L L0 m ops Q fuel listed j) (h'' : AnyAt P n W0 F H H0 L L0 m ops Q fuel listed k) :
    Sat n W0 F H L (Any P W0 H0 L0 m ops Q (fuel + 1) listed) := any_all hr (by simp) (by simpa using ⟨h, h', h''⟩)
theorem any_tail {l rest : List Oper} (hok : tailOk l.toArray m listed = true) (hrest : l.drop m = rest) (hfuel : fuel = rest.length) (h : SL false P n W0 F H L l.toArray Q rest) : Sat n W0 F H L (Any P W0 H0 L0 m l.toArray Q fuel listed) := fun a w hF hS => by
  have hrest : l.toArray.toList.drop m = rest := hrest
  generalize l.toArray = ops at *
  simp only [tailOk, Bool.and_eq_true, List.all_eq_true, List.mem_range, beq_iff_eq] at hok
  obtain ⟨⟨h1, h2⟩, h3⟩ := hok
  subst h1
  have key : ∀ (rest : List Oper) (i : Nat) (a : Act) (w : GW), m ≤ i → i + rest.length = ops.size → (∀ j, rest[j]? = ops[i + j]?) → wpListV P ops Q rest a w → AnyRun P ops Q rest.length (qlisted ops.size i) a w := by
    intro rest
    induction rest with
    | nil =>
      intro i a w _ hl _ h
      have : i = ops.size := by simpa using hl
      subst this
      exact anyRun_zero h
    | cons o r ih =>
      intro i a w hmi hl hr h
      have hi : ops[i]? = some o := by have := hr 0; simpa using this.symm
      have hlt : i < ops.size := by simp at hl; omega
      have hrd : Region.ready .any ops (qlisted ops.size i) = [i] := by
        have := h2 i hlt
        simp only [Bool.or_eq_true, Nat.blt_eq, beq_iff_eq] at this
        rcases this with h | h
        · omega
        · exact h
      refine anyRun_go (fun h0 => (by rw [hrd] at h0; cases h0)) fun j hj t' => ?_
      rw [hrd] at hj
      obtain rfl : j = i := by simpa using hj
      have hnext := fun a w (h : wpListV P ops Q r a w) => ih (j + 1) a w (by omega) (by simp at hl; omega) (fun k => by have := hr (k + 1); rw [List.getElem?_cons_succ] at this; rw [this]; congr 1; omega) h t'
      unfold wpListV at h
      split at h
      · rename_i hw
        exact wpOpsV_cons hi hw (wpV_next h hnext)
      · rename_i hw
        exact wpOpsV_unwanted hi (by simpa using hw) (hnext _ _ h)
  subst hrest
  rcases Nat.lt_or_ge ops.size m with hm | hm
  · have he : ops.toList.drop m = [] := List.drop_eq_nil_of_le (by simp; omega)
    have hq : qlisted ops.size m = qlisted ops.size ops.size := by
      have : ∀ k, ops.size ≤ k → qlisted ops.size k = qlisted ops.size ops.size := by
        intro k hk
        induction k with
        | zero => have : ops.size = 0 := by omega
                  rw [this]
        | succ k ih =>
          by_cases hk' : ops.size ≤ k
          · rw [qlisted, ih hk']
            have hsz : ∀ j, (qlisted ops.size j).size = ops.size := fun j => by induction j with | zero => simp [qlisted] | succ j ih => simp [qlisted, ih]
            apply Array.setIfInBounds_eq_of_size_le
            rw [hsz]; exact hk'
          · have : k + 1 = ops.size := by omega
            rw [this]
      exact this m (by omega)
    rw [he] at h hfuel
    simp only [List.length_nil] at hfuel
    subst hfuel
    exact (show wpP P ops Q _ m 0 _ a w from ⟨by rw [hq]; exact List.isEmpty_iff.1 h3, h a w hF hS⟩)
  · have hk := key (ops.toList.drop m) m a w (Nat.le_refl _) (by simp; omega) (fun j => by simp) (h a w hF hS)
    rw [← hfuel] at hk
    unfold Any
    cases fuel with
    | zero =>
      have he : ops.size - m = 0 := by simpa using hfuel.symm
      have hq : m = ops.size := by omega
      refine ⟨by rw [hq]; exact List.isEmpty_iff.1 h3, ?_⟩
      have := h a w hF hS
      rw [List.drop_eq_nil_of_le (by simp; omega)] at this
      exact this
    | succ f =>
      unfold wpP
      have hsz : ∀ j, (qlisted ops.size j).size = ops.size := fun j => by induction j with | zero => simp [qlisted] | succ j ih => simp [qlisted, ih]
      have hpre : preDone m (qlisted ops.size m) = true := by
        have : ∀ k j, j < k → k ≤ ops.size → (qlisted ops.size k).getD j false = true := by
          intro k
          induction k with
          | zero => intro j hj; omega
          | succ k ih =>
            intro j hj hks
            simp only [qlisted]
            by_cases e : j = k
            · subst e
              have hlt : j < ops.size := by omega
              simp [hsz, hlt]
            · rw [getD_set_ne false (Ne.symm e)]; exact ih j (by omega) (by omega)
        exact List.all_eq_true.2 fun j hj => this m j (List.mem_range.1 hj) hm
      rw [if_pos hpre]
      exact hk
theorem at_some {i : Nat} {d : Tmp} {op : Op} {ty : TypeId} {pos : String} {aft : Array Edge} (hi : ops[i]? = some ⟨some d, op, ty, pos, aft, none⟩) (hd : Nat.blt d n = true)
    (h : OpW P n W0 ⟨some d, op, ty, pos, aft, none⟩ F H L (fun v H' L' => H0.le H' ∧ Sub L' L0 ∧ Sat n W0 ((d, v) :: F) H' L' (Any P W0 H0 L0 m ops Q fuel (listed.setIfInBounds i true)))) :
    AnyAt P n W0 F H H0 L L0 m ops Q fuel listed i := fun a w hF hS => by
  unfold wpOpY
  simp only [hi]
  rw [if_pos (by simp [Region.wanted])]
  exact (h a w _ hF hS fun v H' L' w' _ ⟨h1, h2, h3⟩ hs => ⟨(hs.weak h1).sub h2, h3 _ _ (hF.put hd v) hs⟩)
theorem at_none {i : Nat} {op : Op} {ty : TypeId} {pos : String} {aft : Array Edge} (hi : ops[i]? = some ⟨none, op, ty, pos, aft, none⟩)
    (h : OpW P n W0 ⟨none, op, ty, pos, aft, none⟩ F H L (fun _ H' L' => H0.le H' ∧ Sub L' L0 ∧ Sat n W0 F H' L' (Any P W0 H0 L0 m ops Q fuel (listed.setIfInBounds i true)))) :
    AnyAt P n W0 F H H0 L L0 m ops Q fuel listed i := fun a w hF hS => by
  unfold wpOpY
  simp only [hi]
  rw [if_pos (by simp [Region.wanted])]
  exact (h a w _ hF hS fun v H' L' w' _ ⟨h1, h2, h3⟩ hs => ⟨(hs.weak h1).sub h2, h3 _ _ (hF.put0 v) hs⟩)
end
end Go.Sx
