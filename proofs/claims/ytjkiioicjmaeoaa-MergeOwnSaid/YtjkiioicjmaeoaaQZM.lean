/- A drawn region with effects at its end: reading and reckoning in whatever order, one effect that waits for some of it, then what waits for all. No program in si -/
import Derived.Test.YtjkiioicjmaeoaaQMG
import Derived.Test.YtjkiioicjmaeoaaQMN
set_option linter.unusedVariables false
set_option linter.unusedSimpArgs false
namespace Go.Sx
open Go Go.X
section
variable {P : Program} {n : NF} {W0 : GW} {F : Slots} {H : Heap} {L : List HProp} {ops : Array Oper} {Q : Exit → Act → GW → Prop}
theorem set_true {listed : Array Bool} {i : Nat} (hlt : i < listed.size) (j : Nat) : (listed.setIfInBounds i true).getD j false = (listed.getD j false || j == i) := by
  by_cases hji : j = i
  · subst hji; simp [hlt]
  · rw [getD_set_ne false (Ne.symm hji)]; simp [hji]
def unl (N : Nat) (listed : Array Bool) : List Nat := (List.range N).filter fun j => !listed.getD j false
theorem unl_set {N fuel i : Nat} {listed : Array Bool} (hsz : listed.size = N) (hlt : i < N) (hun : listed.getD i false = false) (hf : (unl N listed).length ≤ fuel + 1) : (unl N (listed.setIfInBounds i true)).length ≤ fuel := by
  have hset := set_true (listed := listed) (i := i) (by omega)
  have hsub : unl N (listed.setIfInBounds i true) = (unl N listed).filter fun j => j != i := by
    unfold unl
    rw [List.filter_filter]
    congr 1
    funext j
    rw [hset]
    cases listed.getD j false <;> cases h : j == i <;> simp_all [bne]
  rw [hsub]
  have hmem : i ∈ unl N listed := List.mem_filter.2 ⟨List.mem_range.2 hlt, by rw [hun]; rfl⟩
  have : ((unl N listed).filter fun j => j != i).length < (unl N listed).length := List.length_filter_lt_length_iff_exists.2 ⟨i, hmem, by simp⟩
  omega
theorem ready_nil {listed : Array Bool} (ok : FlowOk ops) (hsz : listed.size = ops.size) (h : Region.ready .any ops listed = []) : ∀ j, j < ops.size → listed.getD j false = true := by
  intro j
  induction j using Nat.strongRecOn with
  | _ j ihj =>
    intro hj
    cases hlj : listed.getD j false with
    | true => rfl
    | false =>
      have : j ∈ Region.ready .any ops listed := mem_ready.2 ⟨by
        have h1 : j < listed.size := by omega
        simp [h1] at hlj ⊢; exact hlj, ops[j], Array.getElem?_eq_getElem hj, fun e he hb => by
        have hlt := ok.back j _ (Array.getElem?_eq_getElem hj) e he hb
        exact ihj e.on hlt (by omega)⟩
      rw [h] at this; cases this
theorem go_step {fuel t : Nat} {listed : Array Bool} {b : Act} {w : GW} (hn : Region.ready .any ops listed = [] → wpOpsV P ops Q [] b w)
    (hs : ∀ i, i ∈ Region.ready .any ops listed → ∀ t', wpOpsV P ops Q (i :: Region.linearise.go .any ops fuel t' (listed.setIfInBounds i true) []) b w) : wpOpsV P ops Q (Region.linearise.go .any ops (fuel + 1) t listed []) b w := by
  simp only [Region.linearise.go]
  change wpOpsV P ops Q (match (Region.ready .any ops listed)[t % (Region.ready .any ops listed).length]? with
    | some i => Region.linearise.go .any ops fuel (t / (Region.ready .any ops listed).length) (listed.setIfInBounds i true) [i]
    | none => [].reverse) b w
  cases hi : (Region.ready .any ops listed)[t % (Region.ready .any ops listed).length]? with
  | none =>
    have hnil : Region.ready .any ops listed = [] := by
      cases hr : Region.ready .any ops listed with
      | nil => rfl
      | cons x xs =>
        rw [hr] at hi
        have hlt : t % (x :: xs).length < (x :: xs).length := Nat.mod_lt _ (by simp)
        simp only [List.getElem?_eq_getElem hlt] at hi
        cases hi
    exact hn hnil
  | some i =>
    simp only []
    rw [linearise_go_acc, List.reverse_singleton, List.singleton_append]
    exact hs i (List.mem_of_getElem? hi) _
def Closed (ops : Array Oper) (listed : Array Bool) : Prop := ∀ (j : Nat) o, ops[j]? = some o → listed.getD j false = true → ∀ e ∈ o.after, Region.binds .any e = true → listed.getD e.on false = true
theorem reach_listed {listed : Array Bool} {m : Nat} {o : Oper} (hcl : Closed ops listed) (ho : ops[m]? = some o) (hdeps : ∀ e ∈ o.after, Region.binds .any e = true → listed.getD e.on false = true) {j : Nat} (hr : Reach ops m j) : listed.getD j false = true := by
  induction hr with
  | dep h1 h2 h3 => rw [ho] at h1; cases h1; exact hdeps _ h2 h3
  | step _ h1 h2 h3 ihr => exact hcl _ _ h1 ihr _ h2 h3
theorem Closed.set {listed : Array Bool} {i : Nat} {o : Oper} (hcl : Closed ops listed) (hlt : i < listed.size) (ho : ops[i]? = some o) (hdeps : ∀ e ∈ o.after, Region.binds .any e = true → listed.getD e.on false = true) : Closed ops (listed.setIfInBounds i true) := by
  intro j p hp hlj e he hb
  rw [set_true hlt] at hlj ⊢
  simp only [Bool.or_eq_true, beq_iff_eq] at hlj ⊢
  rcases hlj with hlj | rfl
  · exact .inl (hcl j p hp hlj e he hb)
  · rw [ho] at hp; cases hp
    exact .inl (hdeps e he hb)
theorem tail_sound {m : Nat} (ok : FlowOk ops) (hall : ∀ j, m < j → j < ops.size → ∀ i, i < j → Reach ops j i) : ∀ (k i fuel t : Nat) (listed : Array Bool) (b : Act) (w : GW), i + k = ops.size → m < i → listed.size = ops.size → (unl ops.size listed).length ≤ fuel → Closed ops listed →
    (∀ j, j < i → listed.getD j false = true) → (∀ j, i ≤ j → j < ops.size → listed.getD j false = false) → wpListV P ops Q (ops.toList.drop i) b w → wpOpsV P ops Q (Region.linearise.go .any ops fuel t listed []) b w := by
  intro k
  induction k with
  | zero =>
    intro i fuel t listed b w hik hmi hsz hf hcl h1 h2 hw
    rw [List.drop_eq_nil_of_le (by rw [Array.length_toList]; omega)] at hw
    cases fuel with
    | zero => exact wpOpsV_nil hw
    | succ fuel =>
      refine go_step (fun _ => wpOpsV_nil hw) fun x hx t' => ?_
      obtain ⟨hun, o, ho, _⟩ := mem_ready.1 hx
      have hlt : x < ops.size := (Array.getElem?_eq_some_iff.1 ho).1
      have h3 := h1 x (by omega)
      have hxl : x < listed.size := by omega
      simp [hxl] at hun h3
      rw [h3] at hun; cases hun
  | succ k ih =>
    intro i fuel t listed b w hik hmi hsz hf hcl h1 h2 hw
    have hi : i < ops.size := by omega
    have hui := h2 i (Nat.le_refl _) hi
    cases fuel with
    | zero =>
      have hmem : i ∈ unl ops.size listed := List.mem_filter.2 ⟨List.mem_range.2 hi, by rw [hui]; rfl⟩
      have := List.length_pos_of_mem hmem
      omega
    | succ fuel =>
      refine go_step (fun hnil => ?_) fun x hx t' => ?_
      · have := ready_nil ok hsz hnil i hi
        rw [hui] at this; cases this
      · obtain ⟨hun, o, ho, hdeps⟩ := mem_ready.1 hx
        have hlt : x < ops.size := (Array.getElem?_eq_some_iff.1 ho).1
        have hxi : x = i := by
          rcases Nat.lt_trichotomy x i with h | h | h
          · have h3 := h1 x h
            have hxl : x < listed.size := by omega
            simp [hxl] at hun h3
            rw [h3] at hun; cases hun
          · exact h
          · have h4 := reach_listed hcl ho hdeps (hall x (by omega) hlt i h)
            rw [hui] at h4; cases h4
        subst hxi
        have hxl : x < listed.size := by omega
        have hd : ops.toList.drop x = o :: ops.toList.drop (x + 1) := by
          have e : ops.toList[x]'(by simpa using hlt) = o := by
            have := (Array.getElem?_eq_some_iff.1 ho).2
            simpa using this
          rw [List.drop_eq_getElem_cons (by simpa using hlt), e]
        rw [hd] at hw
        have hnext := fun (b : Act) (w : GW) (h : wpListV P ops Q (ops.toList.drop (x + 1)) b w) => ih (x + 1) fuel t' (listed.setIfInBounds x true) b w (by omega) (by omega) (by simp [hsz]) (unl_set hsz hlt hui hf) (hcl.set hxl ho hdeps)
          (fun j hj => by
            rw [set_true hxl]
            by_cases hjx : j = x
            · simp [hjx]
            · rw [h1 j (by omega)]; rfl)
          (fun j hj hjs => by
            rw [set_true hxl, h2 j (by omega) hjs]
            have : j ≠ x := by omega
            simp [this]) h
        unfold wpListV at hw
        split at hw
        · rename_i hwant
          exact wpOpsV_cons ho hwant (wpV_next hw hnext)
        · rename_i hwant
          exact wpOpsV_unwanted ho (by simpa using hwant) (hnext _ _ hw)
def SQ0 (P : Program) (n : NF) (H : Heap) (QF : Slots → Prop) : List Oper → Slots → Prop
  | [], F => QF F
  | o :: r, F => ∃ d v, o.dst = some d ∧ Nat.blt d n.n = true ∧ o.guard = none ∧ OpP P n o F H [] v ∧ SQ0 P n H QF r ((d, v) :: F)
theorem SQ0.data {QF : Slots → Prop} : ∀ (rest : List Oper) (F : Slots) (a : Act), SQ0 P n H QF rest F → FrOk n a F → ∃ D : List (Tmp × Value), D.length = rest.length ∧
    (∀ (k : Nat) o, rest[k]? = some o → ∃ d v Fk, D[k]? = some (d, v) ∧ o.dst = some d ∧ d < n.n ∧ o.guard = none ∧ FrOk n (putD a (D.take k)) Fk ∧ OpP P n o Fk H [] v) ∧ ∃ F', QF F' ∧ FrOk n (putD a D) F' := by
  intro rest
  induction rest with
  | nil => intro F a h hF; exact ⟨[], rfl, fun k o hk => by simp at hk, F, h, hF⟩
  | cons o r ih =>
    intro F a h hF
    obtain ⟨d, v, hd, hdn, hg, hp, hrest⟩ := h
    obtain ⟨D, hl, hk, hq⟩ := ih _ _ hrest (hF.put hdn v)
    refine ⟨(d, v) :: D, by simp [hl], fun k p hp' => ?_, hq⟩
    cases k with
    | zero =>
      simp only [List.getElem?_cons_zero, Option.some.injEq] at hp'
      subst hp'
      exact ⟨d, v, F, rfl, hd, by simpa using hdn, hg, hF, hp⟩
    | succ k =>
      rw [List.getElem?_cons_succ] at hp'
      obtain ⟨d', v', Fk, h1, h2, h3, h4⟩ := hk k p hp'
      exact ⟨d', v', Fk, by simpa using h1, h2, h3, h4⟩
theorem Val.more {a0 a : Act} {D : List (Tmp × Value)} {S : Nat → Bool} (h : Val n a0 D S a) {p : Tmp × Value} (hS : S D.length = false) : Val n a0 (D ++ [p]) S a := by
  refine ⟨h.size, h.defs, fun j d v hj hs => ?_, fun t ht => h.kept t fun j d v hj hs => ?_⟩
  · by_cases hlt : j < D.length
    · rw [List.getElem?_append_left hlt] at hj; exact h.got j d v hj hs
    · have h1 := (List.getElem?_eq_some_iff.1 hj).1
      simp only [List.length_append, List.length_singleton] at h1
      have : j = D.length := by omega
      subst this; rw [hS] at hs; cases hs
  · refine ht j d v ?_ hs
    rw [List.getElem?_append_left (List.getElem?_eq_some_iff.1 hj).1]; exact hj
theorem flow_soundE {σ : Type} {val : σ → Value} {LE : σ → List HProp} {m d1 : Nat} {l r : List Oper} {o1 : Oper} (hlist : ops.toList = l ++ o1 :: r) (hm : l.length = m) (hr0 : 0 < r.length) (hall : ∀ j, m < j → j < ops.size → ∀ i, i < j → Reach ops j i) (hok : flowOk ops = true)
    (hg1 : o1.guard = none) (hd1 : o1.dst = some d1) (hn1 : Nat.blt d1 n.n = true) {QF : Slots → Prop} (h : SQ0 P n H QF l F)
    (hE : ∀ F', QF F' → ∀ a w, FrOk n a F' → StG W0 H w L → o1.yV P a.eval w fun v w' => ∃ s, v = val s ∧ StG W0 H w' (LE s))
    (hR : ∀ F', QF F' → ∀ s a w, FrOk n a F' → StG W0 H w (LE s) → wpListV P ops Q r (a.put o1.dst (val s)) w)
    {a : Act} {w : GW} (hF : FrOk n a F) (hS : StG W0 H w L) (t : Nat) : wpOpsV P ops Q (Region.linearise.go .any ops ops.size t (Array.replicate ops.size false) []) a w := by
  have ok := FlowOk.of hok
  obtain ⟨D, hl, hk, F', hQF, hF'⟩ := h.data _ _ _ hF
  have hsz1 : ops.size = m + 1 + r.length := by rw [← Array.length_toList, hlist]; simp [hm]; omega
  have hle : D.length = m := hl.trans hm
  have hget : ∀ j, j < m → ops[j]? = l[j]? := fun j hj => by rw [← Array.getElem?_toList, hlist, List.getElem?_append_left (by omega)]
  have hlast : ops[m]? = some o1 := by rw [← Array.getElem?_toList, hlist, ← hm]; simp
  have hdrop : ops.toList.drop (m + 1) = r := by rw [hlist, ← hm, List.drop_append]; simp
  replace hk : ∀ (k : Nat) o, k < m → ops[k]? = some o → _ := fun k o hkm ho => hk k o (by rw [← hget k hkm]; exact ho)
  have hDo : ∀ (s : σ) {j : Nat} {d : Tmp} {v : Value}, (D ++ [(d1, val s)])[j]? = some (d, v) → ∃ o, ops[j]? = some o ∧ o.dst = some d ∧ d < n.n := fun s {j d v} hj => by
    by_cases hjm : j < m
    · rw [List.getElem?_append_left (by omega)] at hj
      have hlt : j < ops.size := by omega
      obtain ⟨d', v', _, h1, h2, h3, _⟩ := hk j ops[j] hjm (Array.getElem?_eq_getElem hlt)
      rw [hj] at h1; cases h1
      exact ⟨_, Array.getElem?_eq_getElem hlt, h2, h3⟩
    · have h1 := (List.getElem?_eq_some_iff.1 hj).1
      simp only [List.length_append, List.length_singleton] at h1
      have : j = m := by omega
      subst this
      rw [List.getElem?_append_right (by omega), hle, Nat.sub_self] at hj
      simp only [List.getElem?_cons_zero, Option.some.injEq, Prod.mk.injEq] at hj
      obtain ⟨rfl, rfl⟩ := hj
      exact ⟨o1, hlast, hd1, by simpa using hn1⟩
  have hdist : ∀ s (i j : Nat) d v u, i ≠ j → (D ++ [(d1, val s)])[i]? = some (d, v) → (D ++ [(d1, val s)])[j]? ≠ some (d, u) := fun s i j d v u hij h1 h2 => by
    obtain ⟨o, ho, hod, _⟩ := hDo s h1
    obtain ⟨p, hp, hpd, _⟩ := hDo s h2
    exact ok.dist i j o p d hij ho hp hpd hod
  have hdn : ∀ s (j : Nat) d v, (D ++ [(d1, val s)])[j]? = some (d, v) → d < n.n := fun s j d v hj => let ⟨_, _, _, h⟩ := hDo s hj; h
  have hT := fun s i hi => Val.take (a0 := a) hF.size (hdist s) (hdn s) i hi
  have htk : ∀ s i, i ≤ m → (D ++ [(d1, val s)]).take i = D.take i := fun s i hi => List.take_append_of_le_length (by omega)
  have hpure : ∀ (s : σ) (L' : List HProp) (listed : Array Bool) (i : Nat) (o : Oper) (b : Act) (w : GW) (rest : List Nat), i < m → listed.size = ops.size → ops[i]? = some o → listed.getD i false = false → (∀ e ∈ o.after, Region.binds .any e = true → listed.getD e.on false = true) → Closed ops listed →
      Val n a (D ++ [(d1, val s)]) (fun j => listed.getD j false) b → StG W0 H w L' → (∀ b' w', Val n a (D ++ [(d1, val s)]) (fun j => (listed.setIfInBounds i true).getD j false) b' → StG W0 H w' L' → wpOpsV P ops Q rest b' w') → wpOpsV P ops Q (i :: rest) b w := by
    intro s L' listed i o b w rest him hsz ho hun hdeps hcl hV hS hn
    have hlt : i < ops.size := by omega
    obtain ⟨d, v, Fk, hDi, hod, hdlt, hg, hFk, hop⟩ := hk i o him ho
    have hDi' : (D ++ [(d1, val s)])[i]? = some (d, v) := by rw [List.getElem?_append_left (by omega)]; exact hDi
    have hTi := hT s i (by simp; omega)
    rw [htk s i (by omega)] at hTi
    have hagree : ∀ t ∈ o.looksAt ops, b.tmps[t]? = (putD a (D.take i)).tmps[t]? := fun t ht => hV.agree hTi fun j u hj => by
      obtain ⟨p, hp, hpd, _⟩ := hDo s hj
      rcases Nat.lt_trichotomy j i with hji | rfl | hij
      · obtain ⟨e, he, hb, rfl⟩ := ok.fore i j o p t hji ho hp hpd ht
        simp [hdeps e he hb, hji]
      · simp [hun]
      · have : listed.getD j false = false := by
          cases hlj : listed.getD j false with
          | false => rfl
          | true =>
            obtain ⟨e, he, hb, rfl⟩ := ok.hind i j o p t hij ho hp hpd ht
            rw [hcl j p hp hlj e he hb] at hun; cases hun
        simp only [this]; simp; omega
    have hx := execOp_agree (ops := ops) (fun cs b => ok.sel i o cs b ho) hagree
    refine wpOpsV_cons ho (by simp [Region.wanted, hg]) ?_
    have hy := (hop.mono (.refl _) (Sub.nil L')).toY hFk hS
    have hy' : o.yV P b.eval w fun v' w' => v' = v ∧ StG W0 H w' L' := by
      unfold Oper.yV Oper.yX at hy ⊢
      rw [hx]; exact hy
    refine wpV_of_yV (YV.mono hy' fun v' w' ⟨e, hS'⟩ => ?_)
    subst e
    refine hn _ _ ?_ hS'
    rw [hod]
    exact (hV.put (hdist s) hDi' hdlt).congr fun j _ => (set_true (by omega) j).symm
  have keyB : ∀ (s : σ) (fuel t : Nat) (listed : Array Bool) (b : Act) (w : GW), listed.size = ops.size → (unl ops.size listed).length ≤ fuel → Closed ops listed → listed.getD m false = true → (∀ j, m < j → j < ops.size → listed.getD j false = false) →
      Val n a (D ++ [(d1, val s)]) (fun j => listed.getD j false) b → StG W0 H w (LE s) → wpOpsV P ops Q (Region.linearise.go .any ops fuel t listed []) b w := by
    intro s fuel
    induction fuel with
    | zero =>
      intro t listed b w hsz hf hcl hm1 hnm hV hS
      exfalso
      have hmem : m + 1 ∈ unl ops.size listed := List.mem_filter.2 ⟨List.mem_range.2 (by omega), by rw [hnm (m + 1) (by omega) (by omega)]; rfl⟩
      have := List.length_pos_of_mem hmem
      omega
    | succ fuel ih =>
      intro t listed b w hsz hf hcl hm1 hnm hV hS
      by_cases hdone : ∀ j, j < m + 1 → listed.getD j false = true
      · refine tail_sound ok hall r.length (m + 1) (fuel + 1) t listed b w (by omega) (by omega) hsz hf hcl hdone (fun j hj hjs => hnm j (by omega) hjs) ?_
        rw [hdrop]
        have hb : b = (putD a D).put o1.dst (val s) := by
          have hT' := hT s (m + 1) (by simp; omega)
          rw [List.take_of_length_le (by simp; omega)] at hT'
          have e : putD a (D ++ [(d1, val s)]) = (putD a D).put o1.dst (val s) := by unfold putD; rw [List.foldl_append, hd1]; rfl
          have h1 : b.tmps = (putD a (D ++ [(d1, val s)])).tmps := Array.ext_getElem? fun t => hV.agree hT' fun j v hj => by
            have := (List.getElem?_eq_some_iff.1 hj).1
            simp only [List.length_append, List.length_singleton] at this
            simp only [hdone j (by omega), show j < m + 1 by omega, decide_true]
          have h2 : b.defers = (putD a (D ++ [(d1, val s)])).defers := hV.defs.trans hT'.defs.symm
          rw [← e]
          cases b; cases hh : putD a (D ++ [(d1, val s)]); simp_all
        rw [hb]
        exact hR F' hQF s _ _ hF' hS
      · refine go_step (fun hnil => ?_) fun i hi t' => ?_
        · have := ready_nil ok hsz hnil (m + 1) (by omega)
          rw [hnm (m + 1) (by omega) (by omega)] at this; cases this
        · obtain ⟨hun, o, ho, hdeps⟩ := mem_ready.1 hi
          have hlt : i < ops.size := (Array.getElem?_eq_some_iff.1 ho).1
          have hil : i < listed.size := by omega
          have hun' : listed.getD i false = false := by simp [hil] at hun ⊢; exact hun
          have him : i < m := by
            rcases Nat.lt_trichotomy i m with h | h | h
            · exact h
            · subst h; rw [hm1] at hun'; cases hun'
            · exact absurd (fun j hj => reach_listed hcl ho hdeps (hall i h hlt j (by omega))) hdone
          refine hpure s (LE s) listed i o b w _ him hsz ho hun' hdeps hcl hV hS fun b' w' hV' hS' => ?_
          refine ih t' _ b' w' (by simp [hsz]) (unl_set hsz hlt hun' hf) (hcl.set hil ho hdeps) ?_ (fun j hj hjs => ?_) hV' hS'
          · rw [set_true hil, hm1]; rfl
          · rw [set_true hil, hnm j hj hjs]
            have : j ≠ i := by omega
            simp [this]
  have hdist0 : ∀ (i j : Nat) d v u, i ≠ j → D[i]? = some (d, v) → D[j]? ≠ some (d, u) := fun i j d v u hij h1 h2 => by
    have hi := (List.getElem?_eq_some_iff.1 h1).1
    have hj := (List.getElem?_eq_some_iff.1 h2).1
    obtain ⟨d', v', _, e1, hod, _⟩ := hk i ops[i] (by omega) (Array.getElem?_eq_getElem (by omega))
    obtain ⟨d2, v2, _, e2, hpd, _⟩ := hk j ops[j] (by omega) (Array.getElem?_eq_getElem (by omega))
    rw [h1] at e1; rw [h2] at e2; cases e1; cases e2
    exact ok.dist i j _ _ d hij (Array.getElem?_eq_getElem (by omega)) (Array.getElem?_eq_getElem (by omega)) hpd hod
  have hdn0 : ∀ (j : Nat) d v, D[j]? = some (d, v) → d < n.n := fun j d v hj => by
    have hi := (List.getElem?_eq_some_iff.1 hj).1
    obtain ⟨d', v', _, e1, _, h3, _⟩ := hk j ops[j] (by omega) (Array.getElem?_eq_getElem (by omega))
    rw [hj] at e1; cases e1; exact h3
  have hT0 := fun i hi => Val.take (a0 := a) hF.size hdist0 hdn0 i hi
  have hD0 : ∀ {j : Nat} {d : Tmp} {v : Value}, D[j]? = some (d, v) → j < m ∧ ∃ o, ops[j]? = some o ∧ o.dst = some d := fun {j d v} hj => by
    have hi := (List.getElem?_eq_some_iff.1 hj).1
    obtain ⟨d', v', _, e1, h2, _⟩ := hk j ops[j] (by omega) (Array.getElem?_eq_getElem (by omega))
    rw [hj] at e1; cases e1
    exact ⟨by omega, _, Array.getElem?_eq_getElem (by omega), h2⟩
  have keyA : ∀ (fuel t : Nat) (listed : Array Bool) (b : Act) (w : GW), listed.size = ops.size → (unl ops.size listed).length ≤ fuel → Closed ops listed → (∀ j, m ≤ j → j < ops.size → listed.getD j false = false) →
      Val n a D (fun j => listed.getD j false) b → StG W0 H w L → wpOpsV P ops Q (Region.linearise.go .any ops fuel t listed []) b w := by
    intro fuel
    induction fuel with
    | zero =>
      intro t listed b w hsz hf hcl hnm hV hS
      exfalso
      have hmem : m ∈ unl ops.size listed := List.mem_filter.2 ⟨List.mem_range.2 (by omega), by rw [hnm m (Nat.le_refl _) (by omega)]; rfl⟩
      have := List.length_pos_of_mem hmem
      omega
    | succ fuel ih =>
      intro t listed b w hsz hf hcl hnm hV hS
      refine go_step (fun hnil => ?_) fun i hi t' => ?_
      · have := ready_nil ok hsz hnil m (by omega)
        rw [hnm m (Nat.le_refl _) (by omega)] at this; cases this
      · obtain ⟨hun, o, ho, hdeps⟩ := mem_ready.1 hi
        have hlt : i < ops.size := (Array.getElem?_eq_some_iff.1 ho).1
        have hil : i < listed.size := by omega
        have hun' : listed.getD i false = false := by simp [hil] at hun ⊢; exact hun
        have hset := set_true hil
        rcases Nat.lt_trichotomy i m with him | him | him
        · obtain ⟨d, v, Fk, hDi, hod, hdlt, hg, hFk, hop⟩ := hk i o him ho
          have hagree : ∀ t ∈ o.looksAt ops, b.tmps[t]? = (putD a (D.take i)).tmps[t]? := fun t ht => hV.agree (hT0 i (by omega)) fun j u hj => by
            obtain ⟨hjm, p, hp, hpd⟩ := hD0 hj
            rcases Nat.lt_trichotomy j i with hji | rfl | hij
            · obtain ⟨e, he, hb, rfl⟩ := ok.fore i j o p t hji ho hp hpd ht
              simp [hdeps e he hb, hji]
            · simp [hun']
            · have : listed.getD j false = false := by
                cases hlj : listed.getD j false with
                | false => rfl
                | true =>
                  obtain ⟨e, he, hb, rfl⟩ := ok.hind i j o p t hij ho hp hpd ht
                  rw [hcl j p hp hlj e he hb] at hun'; cases hun'
              simp only [this]; simp; omega
          have hx := execOp_agree (ops := ops) (fun cs b => ok.sel i o cs b ho) hagree
          refine wpOpsV_cons ho (by simp [Region.wanted, hg]) ?_
          have hy := (hop.mono (.refl _) (Sub.nil L)).toY hFk hS
          have hy' : o.yV P b.eval w fun v' w' => v' = v ∧ StG W0 H w' L := by
            unfold Oper.yV Oper.yX at hy ⊢
            rw [hx]; exact hy
          refine wpV_of_yV (YV.mono hy' fun v' w' ⟨e, hS'⟩ => ?_)
          subst e
          refine ih t' _ _ w' (by simp [hsz]) (unl_set hsz hlt hun' hf) (hcl.set hil ho hdeps) (fun j hj hjs => ?_) ?_ hS'
          · rw [hset, hnm j hj hjs]
            have : j ≠ i := by omega
            simp [this]
          · rw [hod]
            exact (hV.put hdist0 hDi hdlt).congr fun j _ => (hset j).symm
        · subst him
          rw [hlast] at ho; cases ho
          have hTm := hT0 D.length (Nat.le_refl _)
          rw [List.take_length] at hTm
          have hagree : ∀ t ∈ o1.looksAt ops, b.tmps[t]? = (putD a D).tmps[t]? := fun t ht => hV.agree hTm fun j u hj => by
            obtain ⟨hjm, p, hp, hpd⟩ := hD0 hj
            obtain ⟨e, he, hb, rfl⟩ := ok.fore i j o1 p t hjm hlast hp hpd ht
            simp [hdeps e he hb, hle, hjm]
          have hx := execOp_agree (ops := ops) (fun cs b => ok.sel i o1 cs b hlast) hagree
          refine wpOpsV_cons hlast (by simp [Region.wanted, hg1]) ?_
          have hy := hE F' hQF _ _ hF' hS
          have hy' : o1.yV P b.eval w fun v w' => ∃ s, v = val s ∧ StG W0 H w' (LE s) := by
            unfold Oper.yV Oper.yX at hy ⊢
            rw [hx]; exact hy
          refine wpV_of_yV (YV.mono hy' fun v' w' ⟨s, e, hS'⟩ => ?_)
          subst e
          refine keyB s fuel t' _ _ w' (by simp [hsz]) (unl_set hsz hlt hun' hf) (hcl.set hil hlast hdeps) (by rw [hset]; simp) (fun j hj hjs => ?_) ?_ hS'
          · rw [hset, hnm j (by omega) hjs]
            have : j ≠ i := by omega
            simp [this]
          · rw [hd1]
            refine ((hV.more (p := (d1, val s)) (by rw [hle]; exact hun')).put (hdist s) (i := i) (d := d1) (v := val s) ?_ (by simpa using hn1)).congr fun j _ => (hset j).symm
            rw [List.getElem?_append_right (by omega), hle, Nat.sub_self]; rfl
        · have := reach_listed hcl ho hdeps (hall i him hlt m him)
          rw [hnm m (Nat.le_refl _) (by omega)] at this; cases this
  refine keyA _ _ _ _ _ (by simp) ?_ (fun j o _ hlj => ?_) (fun j _ hjs => by simp [hjs]) (Val.congr (S := fun j => decide (j < 0)) (hT0 0 (by omega)) fun j _ => ?_) hS
  · exact Nat.le_trans (List.length_filter_le _ _) (by simp)
  · exfalso
    by_cases h : j < ops.size <;> simp [h] at hlj
  · by_cases h : j < ops.size <;> simp [h]
theorem run_bs1 {W1 : World} {dst : Option Tmp} {ty : TypeId} {pos : String} {aft : Array Edge} {g : Option (Nat × Bool)} {t e : TypeId} {sz : Nat} {z v : Value} {cs : List Value} {x : Operand} [hT : TSl P t e] [hS' : TSz P e sz] [hZ : TZ P e z] (hx : opv F x = some v) (hc : v.cells = cs.toArray) (hl : cs.length = sz) (hz : z.cells.size = sz)
    (h0 : (Nat.blt 0 sz && Nat.ble sz 1000) = true) {a : Act} {w : World} (hF : FrOk n a F) (hS : St W1 H w L) : ∃ b w', (execOp a.eval (⟨dst, .buildSlice t 1 #[(0, x)], ty, pos, aft, g⟩ : Oper)).run P w = .ok (.value (.slice (some ⟨b, 0, none⟩) 1 1)) w' ∧ St W1 H w' (row b e cs :: L) := by
    have hs : St _ H (w.alloc (.cells cs.toArray e)) (row w.heap.size e cs :: L) := hS.alloc (hS.env.of rfl rfl rfl) rfl
    refine ⟨_, _, ?_, hs⟩
    have h0 : 0 < sz ∧ sz ≤ 1000 := by simpa using h0
    have hne : sz ≠ 0 := by omega
    have hfold : ∀ (l : List Value) (i : Nat) (arr : List Value), i + l.length ≤ arr.length → (l.zipIdx i).foldl (fun (cs : Array Value) (c, j) => cs.setIfInBounds (0 + j) c) arr.toArray = (arr.take i ++ l ++ arr.drop (i + l.length)).toArray := by
      intro l
      induction l with
      | nil => intro i arr _; simp
      | cons c l ih =>
        intro i arr hl'
        simp only [List.zipIdx_cons, List.foldl_cons, Nat.zero_add, List.setIfInBounds_toArray]
        rw [show (fun (cs : Array Value) (x : Value × Nat) => cs.setIfInBounds x.2 x.1) = (fun (cs : Array Value) (x : Value × Nat) => match x with | (c, j) => cs.setIfInBounds (0 + j) c) from by funext cs x; simp]
        rw [ih (i + 1) _ (by simp at hl' ⊢; omega)]
        congr 1
        simp only [List.length_cons] at hl' ⊢
        rw [List.drop_set_of_lt (by omega)]
        have e1 : (arr.set i c).take (i + 1) = arr.take i ++ [c] := by
          rw [List.take_add_one, List.getElem?_set_self (by omega), List.take_set_of_le (by omega)]; simp
        rw [e1]; simp [Nat.add_assoc, Nat.add_comm 1]
    have hf := hfold cs 0 ((List.range (1 * sz)).map (fun i => z.cells[i % z.cells.size]!)) (by simp; omega)
    have hd : ((List.range (1 * sz)).map (fun i => z.cells[i % z.cells.size]!)).drop (0 + cs.length) = [] := List.drop_eq_nil_of_le (by simp; omega)
    rw [hd] at hf
    simp only [List.take_zero, List.nil_append, List.append_nil] at hf
    have hfill : Instr.fill (fun i => some (i * sz, sz)) ((Array.range (1 * sz)).map (fun i => z.cells[i % z.cells.size]!)) [(0, v)] = some cs.toArray := by
      simp only [Instr.fill, hc, Nat.zero_mul]
      rw [if_neg (by simp; omega)]
      have e2 : ((Array.range (1 * sz)).map (fun i => z.cells[i % z.cells.size]!)) = ((List.range (1 * sz)).map (fun i => z.cells[i % z.cells.size]!)).toArray := by
        apply Array.ext'; simp [Array.toList_range]
      rw [e2]
      simpa using hf
    simp only [execOp]
    simp [Instr.buildSlice, run_underlying hT.und, hS'.run, hne, hZ.run, hF.opv hx, newRow]
    rw [if_neg (by omega)]
    simp only [Nat.one_mul] at hfill
    simp [hfill]
theorem y_bs1 {dst : Option Tmp} {ty : TypeId} {pos : String} {aft : Array Edge} {g : Option (Nat × Bool)} {t e : TypeId} {sz : Nat} {z v : Value} {cs : List Value} {x : Operand} [hT : TSl P t e] [hS' : TSz P e sz] [hZ : TZ P e z] (hx : opv F x = some v) (hc : v.cells = cs.toArray) (hl : cs.length = sz) (hz : z.cells.size = sz)
    (h0 : (Nat.blt 0 sz && Nat.ble sz 1000) = true) {a : Act} {w : GW} (hF : FrOk n a F) (hS : StG W0 H w L) : (⟨dst, .buildSlice t 1 #[(0, x)], ty, pos, aft, g⟩ : Oper).yV P a.eval w fun v' w' => ∃ b, v' = .slice (some ⟨b, 0, none⟩) 1 1 ∧ StG W0 H w' (row b e cs :: L) :=
  opV_of (K := fun v' H' L' => H' = H ∧ ∃ b, v' = .slice (some ⟨b, 0, none⟩) 1 1 ∧ L' = row b e cs :: L) (fun a _ => calm_static rfl _)
    (fun {W1} a w hF hS => let ⟨b, w', hr, hs⟩ := run_bs1 (W1 := W1) (dst := dst) (ty := ty) (pos := pos) (aft := aft) (g := g) hx hc hl hz h0 hF hS; ⟨_, _, H, _, w', hr, .inl rfl, .refl _, ⟨rfl, b, rfl, rfl⟩, hs⟩)
    a w _ hF hS.st (by rw [hS.sh]; exact hS.dj) fun v' H' L' w' hs hp _ ⟨e1, b, e2, e3⟩ hS' hd => ⟨b, e2, by subst e1 e3; exact ⟨hS', hs.trans hS.sh, hp.trans hS.ps, by rw [← hS.sh, ← hs]; exact hd⟩⟩
theorem SQ0.op {QF : Slots → Prop} {d : Tmp} {op : Op} {ty : TypeId} {pos : String} {aft : Array Edge} {r : List Oper} {v : Value} (h : OpP P n ⟨some d, op, ty, pos, aft, none⟩ F H [] v) (hk : SQ0 P n H QF r ((d, v) :: F)) (hd : Nat.blt d n.n = true := by rfl) : SQ0 P n H QF (⟨some d, op, ty, pos, aft, none⟩ :: r) F :=
  ⟨d, v, rfl, hd, rfl, h, hk⟩
theorem SQ0.nil {QF : Slots → Prop} (h : QF F) : SQ0 P n H QF [] F := h
theorem ex_quietB [hx : TMix P] {k : List Fr} {id d1 : Nat} {ops r : List Oper} {ty : TypeId} {pos : String} {aft : Array Edge} {t e : TypeId} {sz : Nat} {z v : Value} {x : Operand} [hT : TSl P t e] [hS' : TSz P e sz] [hZ : TZ P e z] (m : Nat) (cs : List Value)
    (hlist : ops.drop m = ⟨some d1, .buildSlice t 1 #[(0, x)], ty, pos, aft, none⟩ :: r) (hr0 : Nat.blt 0 r.length = true) (hall : ∀ j, m < j → j < ops.toArray.size → ∀ i, i < j → Reach ops.toArray j i) (hok : flowOk ops.toArray = true) (hc : v.cells = cs.toArray) (hl : cs.length = sz) (hz : z.cells.size = sz) (h0 : (Nat.blt 0 sz && Nat.ble sz 1000) = true)
    (h : SQ0 P n H (fun F' => opv F' x = some v ∧ ∀ b, Ops P n W0 Q ((d1, .slice (some ⟨b, 0, none⟩) 1 1) :: F') H (row b e cs :: L) false ops.toArray r k) (ops.take m) F) (hn1 : Nat.blt d1 n.n = true := by rfl) : Ex P n W0 Q F H L (.region id ops.toArray true) k := by
  have hm : (ops.take m).length = m := by
    have := congrArg List.length hlist
    simp only [List.length_drop, List.length_cons] at this
    rw [List.length_take]; omega
  have hl1 : ops.toArray.toList = ops.take m ++ ⟨some d1, .buildSlice t 1 #[(0, x)], ty, pos, aft, none⟩ :: r := by rw [← hlist, List.take_append_drop]
  exact ⟨fun a w hF hS => wpV_region_draw fun tt => by
    simp only [Region.schedule, hx.h, Bool.true_or, if_true]
    exact flow_soundE (σ := Nat) (val := fun b => .slice (some ⟨b, 0, none⟩) 1 1) (LE := fun b => row b e cs :: L) hl1 hm (by simpa using hr0) hall hok rfl rfl hn1 h
      (fun F' hq a w hF hS => y_bs1 hq.1 hc hl hz h0 hF hS)
      (fun F' hq b a w hF hS => (hq.2 b).run _ _ (hF.put (by simpa using hn1) _) hS) hF hS tt⟩
end
end Go.Sx
