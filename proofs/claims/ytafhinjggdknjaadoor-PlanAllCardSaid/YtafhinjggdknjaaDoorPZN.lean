/- A drawn region with a store: reading and reckoning in whatever order, the store, which waits for all that reads what it changes, then what waits for all. No pro -/
import Derived.Test.YtafhinjggdknjaaDoorPEP
import Derived.Test.YtafhinjggdknjaaDoorPMA
set_option linter.unusedVariables false
set_option linter.unusedSimpArgs false
namespace Go.X
open Go Go.Sx
section
variable {P : Program} {n : NF} {W0 : GW} {F : Slots} {H : Heap} {L : List HProp} {Q : Exit → Act → GW → Prop} {k : List Fr}
theorem cx_loopG {c : Code} {σ : Type} (I : σ → Prop) (mW : σ → GW) (mF : σ → Slots) (mH : σ → Heap) (mL : σ → List HProp) (μ : σ → Nat) (s0 : σ) (h0 : I s0) (hs0 : Sub L (mL s0)) (hf0 : fsub (mF s0) F) (hh0 : mH s0 = H) (hw0 : mW s0 = W0)
    (round : ∀ s, I s → ∀ K : Act → GW → Prop, (∀ s', I s' → μ s' < μ s → Sat n (mW s') (mF s') (mH s') (mL s') K) → Sat n (mW s) (mF s) (mH s) (mL s) (c.wpV P (thenX K Q))) :
    Sat n W0 F H L ((Code.loop c).wpV P Q) := by
  subst hh0 hw0
  refine Sat.sub (F' := mF s0) (L' := mL s0) ?_ hs0 hf0
  intro a w hF hS Wr h1 b k cs hb hc
  have key : ∀ m s a (w : GW), I s → μ s = m → FrOk n a (mF s) → StG (mW s) (mH s) w (mL s) → Sm Wr w → MI P kd Wr.toWorld (SB P Wr) (Go.Conc.G (b.at a (.code c :: .inLoop c :: k)) cs) (xw w) := by
    intro m
    induction m using Nat.strongRecOn with
    | _ m ih =>
      intro s a w hI hm hF hS h1
      refine round s hI (fun a' w' => ∃ s', I s' ∧ μ s' < μ s ∧ FrOk n a' (mF s') ∧ StG (mW s') (mH s') w' (mL s')) (fun s' hI' hs' a' w' hF' hS' => ⟨s', hI', hs', hF', hS'⟩) a w hF hS Wr h1 b (.inLoop c :: k) cs hb fun e a' x' hq => ?_
      cases e with
      | normal =>
        obtain ⟨w', r, s', hI', hlt, hF', hS'⟩ := hq
        rw [r.eq]
        exact .ctl rfl (fun _ _ => Go.Conc.stepG_inLoop) (ih (μ s') (hm ▸ hlt) s' a' w' hI' rfl hF' hS' r.sm)
      | exit id => exact (hc _ _ _ hq).push rfl (by simp)
      | goto l => exact (hc _ _ _ hq).push (i := .inLoop c) rfl (by simp)
      | ret => exact (hc _ _ _ hq).push (i := .inLoop c) rfl (by simp)
      | panic ch => exact hc _ _ _ hq
      | outgrown => exact hc _ _ _ hq
  exact .ctl rfl (fun _ _ => Go.Conc.stepG_loop) (key _ s0 a w h0 rfl hF hS h1)
theorem ex_loopG {c : Code} {σ : Type} (I : σ → Prop) (mW : σ → GW) (mF : σ → Slots) (mH : σ → Heap) (mL : σ → List HProp) (μ : σ → Nat) (s0 : σ) (h0 : I s0)
    (round : ∀ s, I s → ∀ K : Act → GW → Prop, (∀ s', I s' → μ s' < μ s → Sat n (mW s') (mF s') (mH s') (mL s') K) → Ex P n (mW s) Q (mF s) (mH s) (mL s) c (.cut K :: k))
    (hs0 : Sub L (mL s0) := by (try dsimp only); (repeat (first | exact Go.Sx.Sub.refl _ | exact Go.Sx.Sub.nil _ | (apply Go.Sx.sub_pick; (repeat (first | exact Go.Sx.Has.here | apply Go.Sx.Has.there)); skip) | apply Go.Sx.Sub.drop)))
    (hf0 : fsub (mF s0) F := by (try dsimp only); repeat (first | exact Go.Sx.fsub_nil _ | refine Go.Sx.fsub_cons rfl ?_)) (hh0 : mH s0 = H := by rfl) (hw0 : mW s0 = W0 := by rfl) :
    Ex P n W0 Q F H L (.loop c) k := ⟨cx_loopG I mW mF mH mL μ s0 h0 hs0 hf0 hh0 hw0 fun s hs K hK => (round s hs K hK).run⟩
theorem out_nextG {σ : Type} {I : σ → Prop} {mW : σ → GW} {mF : σ → Slots} {mH : σ → Heap} {mL : σ → List HProp} {μ : σ → Nat} {s : σ} {K : Act → GW → Prop} (hL : ∀ s', I s' → μ s' < μ s → Sat n (mW s') (mF s') (mH s') (mL s') K) (s' : σ) (hI : I s') (hμ : μ s' < μ s := by (try dsimp only); omega)
    (hs : Sub L (mL s') := by (try dsimp only); (repeat (first | exact Go.Sx.Sub.refl _ | exact Go.Sx.Sub.nil _ | (apply Go.Sx.sub_pick; (repeat (first | exact Go.Sx.Has.here | apply Go.Sx.Has.there)); skip) | apply Go.Sx.Sub.drop)))
    (hf : fsub (mF s') F := by (try dsimp only); repeat (first | exact Go.Sx.fsub_nil _ | refine Go.Sx.fsub_cons rfl ?_)) (hh : mH s' = H := by rfl) (hw : mW s' = W0 := by rfl) : Out P n W0 Q F H L .normal (.cut K :: k) := by
  subst hh hw; exact ⟨(hL s' hI hμ).sub hs hf⟩
end
end Go.X
namespace Go.X
open Go Go.Sx
theorem HRow.mono {H H' : Heap} (hl : H.le H') {b off : Nat} {cs : List Value} (h : HRow H b off cs) : HRow H' b off cs := fun j v hj => hcell_mono hl (h j v hj)
section
variable {α : Type} {R : Rd α} {sz : Nat} {q : Bool} {P : Program} {n : NF} {W0 : GW} {Q : Exit → Act → GW → Prop} {F : Slots} {H H1 : Heap} {L : List HProp} {ops : Array Oper} {rest : List Oper} {k : List Fr} {ty : TypeId} {pos : String} {aft : Array Edge} {d : Tmp} {g : Option (Nat × Bool)} {v : Value}
end
section
variable {P : Program} {n : NF} {W0 : GW} {Q : Exit → Act → GW → Prop} {F : Slots} {H : Heap} {L : List HProp} {k : List Fr}
end
def binding (o : Oper) : List Nat := (o.after.toList.filter fun e => Region.binds .any e).map (·.on)
def reachStep (ops : Array Oper) (S : List Nat) (i : Nat) : List Nat := if S.contains i then (match ops[i]? with | some o => binding o ++ S | none => S) else S
def reachL (ops : Array Oper) (m : Nat) : List Nat := ((List.range m).reverse).foldl (reachStep ops) (match ops[m]? with | some o => binding o | none => [])
theorem mem_binding {o : Oper} {j : Nat} (h : j ∈ binding o) : ∃ e ∈ o.after, Region.binds .any e = true ∧ e.on = j := by
  simp only [binding, List.mem_map, List.mem_filter] at h
  obtain ⟨e, ⟨h1, h2⟩, h3⟩ := h
  exact ⟨e, Array.mem_toList_iff.1 h1, h2, h3⟩
theorem reachStep_ok {ops : Array Oper} {m : Nat} {S : List Nat} (hS : ∀ j ∈ S, Go.Sx.Reach ops m j) (i : Nat) : ∀ j ∈ reachStep ops S i, Go.Sx.Reach ops m j := by
  intro j hj
  unfold reachStep at hj
  split at hj
  · rename_i hc
    split at hj
    · rename_i o ho
      rcases List.mem_append.1 hj with h | h
      · obtain ⟨e, h1, h2, rfl⟩ := mem_binding h
        exact .step (hS i (by simpa using hc)) ho h1 h2
      · exact hS j h
    · exact hS j hj
  · exact hS j hj
end Go.X
namespace Go.Sx
open Go Go.X
section
variable {P : Program} {n : NF} {W0 : GW} {Q : Exit → Act → GW → Prop} {F : Slots} {H H0 : Heap} {L L0 R : List HProp} {ops : Array Oper} {k : List Fr} {ty : TypeId} {pos : String} {aft : Array Edge} {dst : Option Tmp} {m fuel : Nat} {listed : Array Bool} {g : Option (Nat × Bool)} {K : Value → Heap → List HProp → Prop}
theorem op_makeChan {t e : TypeId} {x : Operand} {sz by_ : Nat} {z : Value} [ht : TCh P t e] [hi : TIn P e sz by_ z] (hx : opv F x = some (.int .i64 0)) (hk : ∀ b, K (.chan (some b)) H (pt b (.chan 0 #[] false 0 0 false) :: L)) : OpW P n W0 ⟨dst, .makeChan t x, ty, pos, aft, g⟩ F H L K :=
  .of_run fun a w hF hS => by
    have hs : St _ H (w.alloc (.chan 0 #[] false 0 0 false)) (pt w.heap.size (.chan 0 #[] false 0 0 false) :: L) := hS.alloc (hS.env.of rfl rfl rfl) rfl
    obtain ⟨d', hu⟩ := ht.und
    obtain ⟨i, h1, _, _, _, _, _⟩ := hi.ex
    have hmax : (0 : Int) ≤ IntKind.i64.max := by decide
    refine ⟨_, H, _, _, ?_, .refl _, hk _, hs⟩
    simp only [execOp, hF.opv hx]
    simp [Instr.makeChan, asInt, asIntOf, run_underlying hu, typeInfo, h1, newObj, Sem.run]
theorem any_4 (i1 i2 i3 i4 : Nat) (h1 : AnyAt P n W0 F H H0 L L0 m ops (Kx P Q k) fuel listed i1) (h2 : AnyAt P n W0 F H H0 L L0 m ops (Kx P Q k) fuel listed i2) (h3 : AnyAt P n W0 F H H0 L L0 m ops (Kx P Q k) fuel listed i3) (h4 : AnyAt P n W0 F H H0 L L0 m ops (Kx P Q k) fuel listed i4)
    (hr : Region.ready .any ops listed = [i1, i2, i3, i4] := by decide +kernel) : AnyO P n W0 Q F H H0 L L0 m ops (fuel + 1) listed k := ⟨any_all hr (by simp) (by simpa using ⟨h1, h2, h3, h4⟩)⟩
end
end Go.Sx
namespace Go.Sx
open Go Go.X
section
variable {P : Program} {n : NF} {W0 : GW} {F : Slots} {H : Heap} {L : List HProp} {ops : Array Oper} {Q : Exit → Act → GW → Prop}
theorem set_true {listed : Array Bool} {i : Nat} (hlt : i < listed.size) (j : Nat) : (listed.setIfInBounds i true).getD j false = (listed.getD j false || j == i) := by
  by_cases hji : j = i
  · subst hji; simp [hlt]
  · rw [getD_set_ne false (Ne.symm hji)]; simp [hji]
def unl (N : Nat) (listed : Array Bool) : List Nat := (List.range N).filter fun j => !listed.getD j false
theorem unl_set {N fuel i : Nat} {listed : Array Bool} (hsz : listed.size = N) (hlt : i < N) (hun : listed.getD i false = false) (hf : (unl N listed).length ≤ fuel + 1) : (unl N (listed.setIfInBounds i true)).length ≤ fuel := by
  have hset := set_true (listed := listed) (i := i) (by omega)
  have hsub : unl N (listed.setIfInBounds i true) = (unl N listed).filter fun j => j != i := by
    unfold unl
    rw [List.filter_filter]
    congr 1
    funext j
    rw [hset]
    cases listed.getD j false <;> cases h : j == i <;> simp_all [bne]
  rw [hsub]
  have hmem : i ∈ unl N listed := List.mem_filter.2 ⟨List.mem_range.2 hlt, by rw [hun]; rfl⟩
  have : ((unl N listed).filter fun j => j != i).length < (unl N listed).length := List.length_filter_lt_length_iff_exists.2 ⟨i, hmem, by simp⟩
  omega
theorem ready_nil {listed : Array Bool} (ok : FlowOk ops) (hsz : listed.size = ops.size) (h : Region.ready .any ops listed = []) : ∀ j, j < ops.size → listed.getD j false = true := by
  intro j
  induction j using Nat.strongRecOn with
  | _ j ihj =>
    intro hj
    cases hlj : listed.getD j false with
    | true => rfl
    | false =>
      have : j ∈ Region.ready .any ops listed := mem_ready.2 ⟨by
        have h1 : j < listed.size := by omega
        simp [h1] at hlj ⊢; exact hlj, ops[j], Array.getElem?_eq_getElem hj, fun e he hb => by
        have hlt := ok.back j _ (Array.getElem?_eq_getElem hj) e he hb
        exact ihj e.on hlt (by omega)⟩
      rw [h] at this; cases this
theorem go_step {fuel t : Nat} {listed : Array Bool} {b : Act} {w : GW} (hn : Region.ready .any ops listed = [] → wpOpsV P ops Q [] b w)
    (hs : ∀ i, i ∈ Region.ready .any ops listed → ∀ t', wpOpsV P ops Q (i :: Region.linearise.go .any ops fuel t' (listed.setIfInBounds i true) []) b w) : wpOpsV P ops Q (Region.linearise.go .any ops (fuel + 1) t listed []) b w := by
  simp only [Region.linearise.go]
  change wpOpsV P ops Q (match (Region.ready .any ops listed)[t % (Region.ready .any ops listed).length]? with
    | some i => Region.linearise.go .any ops fuel (t / (Region.ready .any ops listed).length) (listed.setIfInBounds i true) [i]
    | none => [].reverse) b w
  cases hi : (Region.ready .any ops listed)[t % (Region.ready .any ops listed).length]? with
  | none =>
    have hnil : Region.ready .any ops listed = [] := by
      cases hr : Region.ready .any ops listed with
      | nil => rfl
      | cons x xs =>
        rw [hr] at hi
        have hlt : t % (x :: xs).length < (x :: xs).length := Nat.mod_lt _ (by simp)
        simp only [List.getElem?_eq_getElem hlt] at hi
        cases hi
    exact hn hnil
  | some i =>
    simp only []
    rw [linearise_go_acc, List.reverse_singleton, List.singleton_append]
    exact hs i (List.mem_of_getElem? hi) _
def Closed (ops : Array Oper) (listed : Array Bool) : Prop := ∀ (j : Nat) o, ops[j]? = some o → listed.getD j false = true → ∀ e ∈ o.after, Region.binds .any e = true → listed.getD e.on false = true
theorem reach_listed {listed : Array Bool} {m : Nat} {o : Oper} (hcl : Closed ops listed) (ho : ops[m]? = some o) (hdeps : ∀ e ∈ o.after, Region.binds .any e = true → listed.getD e.on false = true) {j : Nat} (hr : Reach ops m j) : listed.getD j false = true := by
  induction hr with
  | dep h1 h2 h3 => rw [ho] at h1; cases h1; exact hdeps _ h2 h3
  | step _ h1 h2 h3 ihr => exact hcl _ _ h1 ihr _ h2 h3
theorem Closed.set {listed : Array Bool} {i : Nat} {o : Oper} (hcl : Closed ops listed) (hlt : i < listed.size) (ho : ops[i]? = some o) (hdeps : ∀ e ∈ o.after, Region.binds .any e = true → listed.getD e.on false = true) : Closed ops (listed.setIfInBounds i true) := by
  intro j p hp hlj e he hb
  rw [set_true hlt] at hlj ⊢
  simp only [Bool.or_eq_true, beq_iff_eq] at hlj ⊢
  rcases hlj with hlj | rfl
  · exact .inl (hcl j p hp hlj e he hb)
  · rw [ho] at hp; cases hp
    exact .inl (hdeps e he hb)
theorem tail_sound {m : Nat} (ok : FlowOk ops) (hall : ∀ j, m < j → j < ops.size → ∀ i, i < j → Reach ops j i) : ∀ (k i fuel t : Nat) (listed : Array Bool) (b : Act) (w : GW), i + k = ops.size → m < i → listed.size = ops.size → (unl ops.size listed).length ≤ fuel → Closed ops listed →
    (∀ j, j < i → listed.getD j false = true) → (∀ j, i ≤ j → j < ops.size → listed.getD j false = false) → wpListV P ops Q (ops.toList.drop i) b w → wpOpsV P ops Q (Region.linearise.go .any ops fuel t listed []) b w := by
  intro k
  induction k with
  | zero =>
    intro i fuel t listed b w hik hmi hsz hf hcl h1 h2 hw
    rw [List.drop_eq_nil_of_le (by rw [Array.length_toList]; omega)] at hw
    cases fuel with
    | zero => exact wpOpsV_nil hw
    | succ fuel =>
      refine go_step (fun _ => wpOpsV_nil hw) fun x hx t' => ?_
      obtain ⟨hun, o, ho, _⟩ := mem_ready.1 hx
      have hlt : x < ops.size := (Array.getElem?_eq_some_iff.1 ho).1
      have h3 := h1 x (by omega)
      have hxl : x < listed.size := by omega
      simp [hxl] at hun h3
      rw [h3] at hun; cases hun
  | succ k ih =>
    intro i fuel t listed b w hik hmi hsz hf hcl h1 h2 hw
    have hi : i < ops.size := by omega
    have hui := h2 i (Nat.le_refl _) hi
    cases fuel with
    | zero =>
      have hmem : i ∈ unl ops.size listed := List.mem_filter.2 ⟨List.mem_range.2 hi, by rw [hui]; rfl⟩
      have := List.length_pos_of_mem hmem
      omega
    | succ fuel =>
      refine go_step (fun hnil => ?_) fun x hx t' => ?_
      · have := ready_nil ok hsz hnil i hi
        rw [hui] at this; cases this
      · obtain ⟨hun, o, ho, hdeps⟩ := mem_ready.1 hx
        have hlt : x < ops.size := (Array.getElem?_eq_some_iff.1 ho).1
        have hxi : x = i := by
          rcases Nat.lt_trichotomy x i with h | h | h
          · have h3 := h1 x h
            have hxl : x < listed.size := by omega
            simp [hxl] at hun h3
            rw [h3] at hun; cases hun
          · exact h
          · have h4 := reach_listed hcl ho hdeps (hall x (by omega) hlt i h)
            rw [hui] at h4; cases h4
        subst hxi
        have hxl : x < listed.size := by omega
        have hd : ops.toList.drop x = o :: ops.toList.drop (x + 1) := by
          have e : ops.toList[x]'(by simpa using hlt) = o := by
            have := (Array.getElem?_eq_some_iff.1 ho).2
            simpa using this
          rw [List.drop_eq_getElem_cons (by simpa using hlt), e]
        rw [hd] at hw
        have hnext := fun (b : Act) (w : GW) (h : wpListV P ops Q (ops.toList.drop (x + 1)) b w) => ih (x + 1) fuel t' (listed.setIfInBounds x true) b w (by omega) (by omega) (by simp [hsz]) (unl_set hsz hlt hui hf) (hcl.set hxl ho hdeps)
          (fun j hj => by
            rw [set_true hxl]
            by_cases hjx : j = x
            · simp [hjx]
            · rw [h1 j (by omega)]; rfl)
          (fun j hj hjs => by
            rw [set_true hxl, h2 j (by omega) hjs]
            have : j ≠ x := by omega
            simp [this]) h
        unfold wpListV at hw
        split at hw
        · rename_i hwant
          exact wpOpsV_cons ho hwant (wpV_next hw hnext)
        · rename_i hwant
          exact wpOpsV_unwanted ho (by simpa using hwant) (hnext _ _ hw)
def SQ0 (P : Program) (n : NF) (H : Heap) (QF : Slots → Prop) : List Oper → Slots → Prop
  | [], F => QF F
  | o :: r, F => ∃ d v, o.dst = some d ∧ Nat.blt d n.n = true ∧ o.guard = none ∧ OpP P n o F H [] v ∧ SQ0 P n H QF r ((d, v) :: F)
theorem SQ0.data {QF : Slots → Prop} : ∀ (rest : List Oper) (F : Slots) (a : Act), SQ0 P n H QF rest F → FrOk n a F → ∃ D : List (Tmp × Value), D.length = rest.length ∧
    (∀ (k : Nat) o, rest[k]? = some o → ∃ d v Fk, D[k]? = some (d, v) ∧ o.dst = some d ∧ d < n.n ∧ o.guard = none ∧ FrOk n (putD a (D.take k)) Fk ∧ OpP P n o Fk H [] v) ∧ ∃ F', QF F' ∧ FrOk n (putD a D) F' := by
  intro rest
  induction rest with
  | nil => intro F a h hF; exact ⟨[], rfl, fun k o hk => by simp at hk, F, h, hF⟩
  | cons o r ih =>
    intro F a h hF
    obtain ⟨d, v, hd, hdn, hg, hp, hrest⟩ := h
    obtain ⟨D, hl, hk, hq⟩ := ih _ _ hrest (hF.put hdn v)
    refine ⟨(d, v) :: D, by simp [hl], fun k p hp' => ?_, hq⟩
    cases k with
    | zero =>
      simp only [List.getElem?_cons_zero, Option.some.injEq] at hp'
      subst hp'
      exact ⟨d, v, F, rfl, hd, by simpa using hdn, hg, hF, hp⟩
    | succ k =>
      rw [List.getElem?_cons_succ] at hp'
      obtain ⟨d', v', Fk, h1, h2, h3, h4⟩ := hk k p hp'
      exact ⟨d', v', Fk, by simpa using h1, h2, h3, h4⟩
end
end Go.Sx
namespace Go.Sx
open Go Go.X
def flowOkN (ops : Array Oper) : Bool :=
  Region.noSelect ops && (List.range ops.size).all fun i => match ops[i]? with
    | some o => o.after.all (fun e => !Region.binds .any e || Nat.blt e.on i) && (List.range ops.size).all fun j => i == j || match ops[j]? with
      | some p => match p.dst with
        | some d => o.dst != some d && (!(o.looksAt ops).contains d || (if Nat.blt j i then o.after.any (fun e => Region.binds .any e && e.on == j) else p.after.any (fun e => Region.binds .any e && e.on == i)))
        | none => true
      | none => true
    | none => true
theorem FlowOk.ofN {ops : Array Oper} (h : flowOkN ops = true) : FlowOk ops := by
  simp only [flowOkN, Bool.and_eq_true, List.all_eq_true, List.mem_range] at h
  obtain ⟨h1, h2⟩ := h
  have at_ : ∀ {i : Nat} {o : Oper}, ops[i]? = some o → i < ops.size := fun h => (Array.getElem?_eq_some_iff.1 h).1
  have two : ∀ {i j : Nat} {o p : Oper} {d : Tmp}, i ≠ j → ops[i]? = some o → ops[j]? = some p → p.dst = some d → (o.dst != some d) = true ∧ ((!(o.looksAt ops).contains d) = true ∨ (if Nat.blt j i then o.after.any (fun e => Region.binds .any e && e.on == j) else p.after.any (fun e => Region.binds .any e && e.on == i)) = true) := by
    intro i j o p d hij ho hp hd
    have := h2 i (at_ ho)
    simp only [ho, Bool.and_eq_true, List.all_eq_true, List.mem_range] at this
    have := this.2 j (at_ hp)
    simpa [hp, hd, hij] using this
  refine ⟨Region.noSelect_spec h1, fun i o ho e he hb => ?_, fun i j o p d hij ho hp hd hod => ?_, fun i j o p d hji ho hp hd hl => ?_, fun i j o p d hij ho hp hd hl => ?_⟩
  · have := h2 i (at_ ho)
    simp only [ho, Bool.and_eq_true] at this
    have := (Array.all_eq_true_iff_forall_mem.1 this.1) e he
    simpa [hb] using this
  · have := (two hij ho hp hd).1
    simp [hod] at this
  · have := (two (by omega) ho hp hd).2
    have hc : (o.looksAt ops).contains d = true := by simpa using hl
    have hlt : Nat.blt j i = true := by simpa using hji
    simp only [hc, Bool.not_true, Bool.false_eq_true, false_or, hlt, if_true, Array.any_eq_true', Bool.and_eq_true, beq_iff_eq] at this
    obtain ⟨e, he, hb, ho⟩ := this
    exact ⟨e, he, hb, ho⟩
  · have := (two (by omega) ho hp hd).2
    have hc : (o.looksAt ops).contains d = true := by simpa using hl
    have hlt : Nat.blt j i = false := by rw [Bool.eq_false_iff]; intro h; rw [Nat.blt_eq] at h; omega
    simp only [hc, Bool.not_true, Bool.false_eq_true, false_or, hlt, if_false, Array.any_eq_true', Bool.and_eq_true, beq_iff_eq] at this
    obtain ⟨e, he, hb, ho⟩ := this
    exact ⟨e, he, hb, ho⟩
section
variable {P : Program} {n : NF} {W0 : GW} {F : Slots} {H : Heap} {L : List HProp} {ops : Array Oper} {Q : Exit → Act → GW → Prop}
def SQ1 (P : Program) (n : NF) (H : Heap) (L : List HProp) (early : Nat → Prop) (QF : Slots → Prop) : Nat → List Oper → Slots → Prop
  | _, [], F => QF F
  | i, o :: r, F => ∃ d v, o.dst = some d ∧ Nat.blt d n.n = true ∧ o.guard = none ∧ (OpP P n o F H [] v ∨ (early i ∧ OpP P n o F H L v)) ∧ SQ1 P n H L early QF (i + 1) r ((d, v) :: F)
theorem SQ1.data {early : Nat → Prop} {QF : Slots → Prop} : ∀ (rest : List Oper) (i : Nat) (F : Slots) (a : Act), SQ1 P n H L early QF i rest F → FrOk n a F → ∃ D : List (Tmp × Value), D.length = rest.length ∧
    (∀ (k : Nat) o, rest[k]? = some o → ∃ d v Fk, D[k]? = some (d, v) ∧ o.dst = some d ∧ d < n.n ∧ o.guard = none ∧ FrOk n (putD a (D.take k)) Fk ∧ (OpP P n o Fk H [] v ∨ (early (i + k) ∧ OpP P n o Fk H L v))) ∧ ∃ F', QF F' ∧ FrOk n (putD a D) F' := by
  intro rest
  induction rest with
  | nil => intro i F a h hF; exact ⟨[], rfl, fun k o hk => by simp at hk, F, h, hF⟩
  | cons o r ih =>
    intro i F a h hF
    obtain ⟨d, v, hd, hdn, hg, hp, hrest⟩ := h
    obtain ⟨D, hl, hk, hq⟩ := ih _ _ _ hrest (hF.put hdn v)
    refine ⟨(d, v) :: D, by simp [hl], fun k p hp' => ?_, hq⟩
    cases k with
    | zero =>
      simp only [List.getElem?_cons_zero, Option.some.injEq] at hp'
      subst hp'
      exact ⟨d, v, F, rfl, hd, by simpa using hdn, hg, hF, hp⟩
    | succ k =>
      rw [List.getElem?_cons_succ] at hp'
      obtain ⟨d', v', Fk, h1, h2, h3, h4, h5, h6⟩ := hk k p hp'
      exact ⟨d', v', Fk, by simpa using h1, h2, h3, h4, h5, by rw [show i + (k + 1) = i + 1 + k by omega]; exact h6⟩
theorem flow_soundN {LE : List HProp} {m : Nat} {l r : List Oper} {o1 : Oper} (hlist : ops.toList = l ++ o1 :: r) (hm : l.length = m) (hr0 : 0 < r.length) (hall : ∀ j, m < j → j < ops.size → ∀ i, i < j → Reach ops j i) (ok : FlowOk ops)
    (hg1 : o1.guard = none) (hd1 : o1.dst = none) {QF : Slots → Prop} (h : SQ1 P n H L (Reach ops m) QF 0 l F)
    (hE : ∀ F', QF F' → ∀ a w, FrOk n a F' → StG W0 H w L → o1.yV P a.eval w fun v w' => StG W0 H w' LE)
    (hR : ∀ F', QF F' → ∀ a w, FrOk n a F' → StG W0 H w LE → wpListV P ops Q r a w)
    {a : Act} {w : GW} (hF : FrOk n a F) (hS : StG W0 H w L) (t : Nat) : wpOpsV P ops Q (Region.linearise.go .any ops ops.size t (Array.replicate ops.size false) []) a w := by
  obtain ⟨D, hl, hk, F', hQF, hF'⟩ := h.data _ _ _ _ hF
  have hsz1 : ops.size = m + 1 + r.length := by rw [← Array.length_toList, hlist]; simp [hm]; omega
  have hle : D.length = m := hl.trans hm
  have hget : ∀ j, j < m → ops[j]? = l[j]? := fun j hj => by rw [← Array.getElem?_toList, hlist, List.getElem?_append_left (by omega)]
  have hlast : ops[m]? = some o1 := by rw [← Array.getElem?_toList, hlist, ← hm]; simp
  have hdrop : ops.toList.drop (m + 1) = r := by rw [hlist, ← hm, List.drop_append]; simp
  replace hk : ∀ (k : Nat) o, k < m → ops[k]? = some o → _ := fun k o hkm ho => hk k o (by rw [← hget k hkm]; exact ho)
  have hdist0 : ∀ (i j : Nat) d v u, i ≠ j → D[i]? = some (d, v) → D[j]? ≠ some (d, u) := fun i j d v u hij h1 h2 => by
    have hi := (List.getElem?_eq_some_iff.1 h1).1
    have hj := (List.getElem?_eq_some_iff.1 h2).1
    obtain ⟨d', v', _, e1, hod, _⟩ := hk i ops[i] (by omega) (Array.getElem?_eq_getElem (by omega))
    obtain ⟨d2, v2, _, e2, hpd, _⟩ := hk j ops[j] (by omega) (Array.getElem?_eq_getElem (by omega))
    rw [h1] at e1; rw [h2] at e2; cases e1; cases e2
    exact ok.dist i j _ _ d hij (Array.getElem?_eq_getElem (by omega)) (Array.getElem?_eq_getElem (by omega)) hpd hod
  have hdn0 : ∀ (j : Nat) d v, D[j]? = some (d, v) → d < n.n := fun j d v hj => by
    have hi := (List.getElem?_eq_some_iff.1 hj).1
    obtain ⟨d', v', _, e1, _, h3, _⟩ := hk j ops[j] (by omega) (Array.getElem?_eq_getElem (by omega))
    rw [hj] at e1; cases e1; exact h3
  have hT0 := fun i hi => Val.take (a0 := a) hF.size hdist0 hdn0 i hi
  have hD0 : ∀ {j : Nat} {d : Tmp} {v : Value}, D[j]? = some (d, v) → j < m ∧ ∃ o, ops[j]? = some o ∧ o.dst = some d := fun {j d v} hj => by
    have hi := (List.getElem?_eq_some_iff.1 hj).1
    obtain ⟨d', v', _, e1, h2, _⟩ := hk j ops[j] (by omega) (Array.getElem?_eq_getElem (by omega))
    rw [hj] at e1; cases e1
    exact ⟨by omega, _, Array.getElem?_eq_getElem (by omega), h2⟩
  have hpure : ∀ (L' : List HProp) (listed : Array Bool) (i : Nat) (o : Oper) (b : Act) (w : GW) (rest : List Nat), i < m → listed.size = ops.size → ops[i]? = some o → listed.getD i false = false → (∀ e ∈ o.after, Region.binds .any e = true → listed.getD e.on false = true) → Closed ops listed →
      (Reach ops m i → L' = L) → Val n a D (fun j => listed.getD j false) b → StG W0 H w L' → (∀ b' w', Val n a D (fun j => (listed.setIfInBounds i true).getD j false) b' → StG W0 H w' L' → wpOpsV P ops Q rest b' w') → wpOpsV P ops Q (i :: rest) b w := by
    intro L' listed i o b w rest him hsz ho hun hdeps hcl hEarly hV hS hn
    have hlt : i < ops.size := by omega
    obtain ⟨d, v, Fk, hDi, hod, hdlt, hg, hFk, hop⟩ := hk i o him ho
    have hagree : ∀ t ∈ o.looksAt ops, b.tmps[t]? = (putD a (D.take i)).tmps[t]? := fun t ht => hV.agree (hT0 i (by omega)) fun j u hj => by
      obtain ⟨hjm, p, hp, hpd⟩ := hD0 hj
      rcases Nat.lt_trichotomy j i with hji | rfl | hij
      · obtain ⟨e, he, hb, rfl⟩ := ok.fore i j o p t hji ho hp hpd ht
        simp [hdeps e he hb, hji]
      · simp [hun]
      · have : listed.getD j false = false := by
          cases hlj : listed.getD j false with
          | false => rfl
          | true =>
            obtain ⟨e, he, hb, rfl⟩ := ok.hind i j o p t hij ho hp hpd ht
            rw [hcl j p hp hlj e he hb] at hun; cases hun
        simp only [this]; simp; omega
    have hx := execOp_agree (ops := ops) (fun cs b => ok.sel i o cs b ho) hagree
    refine wpOpsV_cons ho (by simp [Region.wanted, hg]) ?_
    have hopL : OpP P n o Fk H L' v := by
      rcases hop with h | ⟨h1, h2⟩
      · exact h.mono (.refl _) (Sub.nil L')
      · rw [Nat.zero_add] at h1
        rw [hEarly h1]; exact h2
    have hy := hopL.toY hFk hS
    have hy' : o.yV P b.eval w fun v' w' => v' = v ∧ StG W0 H w' L' := by
      unfold Oper.yV Oper.yX at hy ⊢
      rw [hx]; exact hy
    refine wpV_of_yV (YV.mono hy' fun v' w' ⟨e, hS'⟩ => ?_)
    subst e
    refine hn _ _ ?_ hS'
    rw [hod]
    exact (hV.put hdist0 hDi hdlt).congr fun j _ => (set_true (by omega) j).symm
  have keyB : ∀ (fuel t : Nat) (listed : Array Bool) (b : Act) (w : GW), listed.size = ops.size → (unl ops.size listed).length ≤ fuel → Closed ops listed → listed.getD m false = true → (∀ j, m < j → j < ops.size → listed.getD j false = false) →
      Val n a D (fun j => listed.getD j false) b → StG W0 H w LE → wpOpsV P ops Q (Region.linearise.go .any ops fuel t listed []) b w := by
    intro fuel
    induction fuel with
    | zero =>
      intro t listed b w hsz hf hcl hm1 hnm hV hS
      exfalso
      have hmem : m + 1 ∈ unl ops.size listed := List.mem_filter.2 ⟨List.mem_range.2 (by omega), by rw [hnm (m + 1) (by omega) (by omega)]; rfl⟩
      have := List.length_pos_of_mem hmem
      omega
    | succ fuel ih =>
      intro t listed b w hsz hf hcl hm1 hnm hV hS
      by_cases hdone : ∀ j, j < m + 1 → listed.getD j false = true
      · refine tail_sound ok hall r.length (m + 1) (fuel + 1) t listed b w (by omega) (by omega) hsz hf hcl hdone (fun j hj hjs => hnm j (by omega) hjs) ?_
        rw [hdrop]
        have hb : b = putD a D := by
          have hT' := hT0 D.length (Nat.le_refl _)
          rw [List.take_length] at hT'
          have h1 : b.tmps = (putD a D).tmps := Array.ext_getElem? fun t => hV.agree hT' fun j v hj => by
            obtain ⟨hjm, _⟩ := hD0 hj
            simp only [hdone j (by omega), hle, hjm, decide_true]
          have h2 : b.defers = (putD a D).defers := hV.defs.trans hT'.defs.symm
          cases b; cases hh : putD a D; simp_all
        rw [hb]
        exact hR F' hQF _ _ hF' hS
      · refine go_step (fun hnil => ?_) fun i hi t' => ?_
        · have := ready_nil ok hsz hnil (m + 1) (by omega)
          rw [hnm (m + 1) (by omega) (by omega)] at this; cases this
        · obtain ⟨hun, o, ho, hdeps⟩ := mem_ready.1 hi
          have hlt : i < ops.size := (Array.getElem?_eq_some_iff.1 ho).1
          have hil : i < listed.size := by omega
          have hun' : listed.getD i false = false := by simp [hil] at hun ⊢; exact hun
          have him : i < m := by
            rcases Nat.lt_trichotomy i m with h | h | h
            · exact h
            · subst h; rw [hm1] at hun'; cases hun'
            · exact absurd (fun j hj => reach_listed hcl ho hdeps (hall i h hlt j (by omega))) hdone
          refine hpure LE listed i o b w _ him hsz ho hun' hdeps hcl (fun hre => ?_) hV hS fun b' w' hV' hS' => ?_
          · have := reach_listed hcl hlast (fun e he hb => hcl m o1 hlast hm1 e he hb) hre
            rw [this] at hun'; cases hun'
          refine ih t' _ b' w' (by simp [hsz]) (unl_set hsz hlt hun' hf) (hcl.set hil ho hdeps) ?_ (fun j hj hjs => ?_) hV' hS'
          · rw [set_true hil, hm1]; rfl
          · rw [set_true hil, hnm j hj hjs]
            have : j ≠ i := by omega
            simp [this]
  have keyA : ∀ (fuel t : Nat) (listed : Array Bool) (b : Act) (w : GW), listed.size = ops.size → (unl ops.size listed).length ≤ fuel → Closed ops listed → (∀ j, m ≤ j → j < ops.size → listed.getD j false = false) →
      Val n a D (fun j => listed.getD j false) b → StG W0 H w L → wpOpsV P ops Q (Region.linearise.go .any ops fuel t listed []) b w := by
    intro fuel
    induction fuel with
    | zero =>
      intro t listed b w hsz hf hcl hnm hV hS
      exfalso
      have hmem : m ∈ unl ops.size listed := List.mem_filter.2 ⟨List.mem_range.2 (by omega), by rw [hnm m (Nat.le_refl _) (by omega)]; rfl⟩
      have := List.length_pos_of_mem hmem
      omega
    | succ fuel ih =>
      intro t listed b w hsz hf hcl hnm hV hS
      refine go_step (fun hnil => ?_) fun i hi t' => ?_
      · have := ready_nil ok hsz hnil m (by omega)
        rw [hnm m (Nat.le_refl _) (by omega)] at this; cases this
      · obtain ⟨hun, o, ho, hdeps⟩ := mem_ready.1 hi
        have hlt : i < ops.size := (Array.getElem?_eq_some_iff.1 ho).1
        have hil : i < listed.size := by omega
        have hun' : listed.getD i false = false := by simp [hil] at hun ⊢; exact hun
        have hset := set_true hil
        rcases Nat.lt_trichotomy i m with him | him | him
        · refine hpure L listed i o b w _ him hsz ho hun' hdeps hcl (fun _ => rfl) hV hS fun b' w' hV' hS' => ?_
          refine ih t' _ b' w' (by simp [hsz]) (unl_set hsz hlt hun' hf) (hcl.set hil ho hdeps) (fun j hj hjs => ?_) hV' hS'
          rw [hset, hnm j hj hjs]
          have : j ≠ i := by omega
          simp [this]
        · subst him
          rw [hlast] at ho; cases ho
          have hTm := hT0 D.length (Nat.le_refl _)
          rw [List.take_length] at hTm
          have hagree : ∀ t ∈ o1.looksAt ops, b.tmps[t]? = (putD a D).tmps[t]? := fun t ht => hV.agree hTm fun j u hj => by
            obtain ⟨hjm, p, hp, hpd⟩ := hD0 hj
            obtain ⟨e, he, hb, rfl⟩ := ok.fore i j o1 p t hjm hlast hp hpd ht
            simp [hdeps e he hb, hle, hjm]
          have hx := execOp_agree (ops := ops) (fun cs b => ok.sel i o1 cs b hlast) hagree
          refine wpOpsV_cons hlast (by simp [Region.wanted, hg1]) ?_
          have hy := hE F' hQF _ _ hF' hS
          have hy' : o1.yV P b.eval w fun v w' => StG W0 H w' LE := by
            unfold Oper.yV Oper.yX at hy ⊢
            rw [hx]; exact hy
          refine wpV_of_yV (YV.mono hy' fun v' w' hS' => ?_)
          rw [hd1]
          refine keyB fuel t' _ _ w' (by simp [hsz]) (unl_set hsz hlt hun' hf) (hcl.set hil hlast hdeps) (by rw [hset]; simp) (fun j hj hjs => ?_) ?_ hS'
          · rw [hset, hnm j (by omega) hjs]
            have : j ≠ i := by omega
            simp [this]
          · refine hV.congr fun j hj => ?_
            rw [hset]
            have : j ≠ D.length := by omega
            simp [hle] at this ⊢
            intro h
            omega
        · have := reach_listed hcl ho hdeps (hall i him hlt m him)
          rw [hnm m (Nat.le_refl _) (by omega)] at this; cases this
  refine keyA _ _ _ _ _ (by simp) ?_ (fun j o _ hlj => ?_) (fun j _ hjs => by simp [hjs]) (Val.congr (S := fun j => decide (j < 0)) (hT0 0 (by omega)) fun j _ => ?_) hS
  · exact Nat.le_trans (List.length_filter_le _ _) (by simp)
  · exfalso
    by_cases h : j < ops.size <;> simp [h] at hlj
  · by_cases h : j < ops.size <;> simp [h]
end
end Go.Sx
