/- Loading: the table and the reference. No program in sight. -/
import Derived.Test.YtkhbfjkioehgfaaGreatDoorMP
import Derived.Test.YtkhbfjkioehgfaaGreatDoorMQ
set_option linter.unusedVariables false
set_option linter.unusedSimpArgs false
namespace Go.Proofs.YtkhbfjkioehgfaaGreatDoor
open Go Go.Sx Go.Proofs
theorem rankE_le {e : Int} : rankE e ≤ 3 := by
  unfold rankE
  by_cases h1 : e = 2
  · rw [if_pos h1]; omega
  · rw [if_neg h1]
    by_cases h2 : e = 1
    · rw [if_pos h2]; omega
    · rw [if_neg h2]; by_cases h3 : e = 140
      · rw [if_pos h3]; omega
      · rw [if_neg h3]; omega
theorem rankE_3 {e : Int} : rankE e = 3 ↔ e = 2 := by
  unfold rankE
  by_cases h1 : e = 2
  · rw [if_pos h1]; exact ⟨fun _ => h1, fun _ => rfl⟩
  · rw [if_neg h1]
    refine ⟨fun h => ?_, fun h => absurd h h1⟩
    by_cases h2 : e = 1
    · rw [if_pos h2] at h; omega
    · rw [if_neg h2] at h; by_cases h3 : e = 140
      · rw [if_pos h3] at h; omega
      · rw [if_neg h3] at h; omega
theorem worse_2 {a : Int} : worse a 2 = 2 := by
  unfold worse
  split
  · rfl
  · next h =>
    have h1 : rankE 2 = 3 := rfl
    have := rankE_le (e := a)
    exact rankE_3.1 (by omega)
theorem two_worse {e : Int} : worse 2 e = 2 := by
  unfold worse
  have h1 : rankE 2 = 3 := rfl
  have := rankE_le (e := e)
  rw [if_neg (by omega)]
theorem loadP_two {s s' : TS} {l : List Rec} {a a' : Int} (h : LoadP s a l s' a') : a = 2 → a' = 2 := by
  induction h with
  | nil => exact id
  | cons h ih => intro e; subst e; exact ih two_worse
theorem lastE_two {l : List Rec} : lastE 2 l = 2 := by unfold lastE; split; exact worse_2; rfl
/-- the holds, one by one: keys, values, the error -/
theorem loadH_err : ∀ {l : List Hold} {m : List (ByteArray × Int)} {a : Int}, (loadH m a l).2 = if (l.map (·.Key)).Nodup ∧ ∀ k ∈ l.map (·.Key), mget k m = none then a else 2
  | [], m, a => by simp [loadH]
  | h :: l, m, a => by
    rw [loadH, loadH_err]
    rw [worse_2]
    have hm : ∀ k, mget k (mset h.Key h.Robot m) = if k = h.Key then some h.Robot else mget k m := fun k => mget_mset h.Key k h.Robot m
    by_cases hin : (mget h.Key m).isSome = true
    · have hne : mget h.Key m ≠ none := by intro e; rw [e] at hin; cases hin
      have hno : ¬ ((((h :: l).map (·.Key)).Nodup) ∧ ∀ k ∈ (h :: l).map (·.Key), mget k m = none) := fun hh => hne (hh.2 h.Key (by simp))
      rw [if_neg hno, if_pos hin]
      split <;> rfl
    · have hnone : mget h.Key m = none := by cases hg : mget h.Key m with | none => rfl | some v => rw [hg] at hin; exact absurd rfl hin
      rw [if_neg hin]
      have hiff : ((l.map (·.Key)).Nodup ∧ ∀ k ∈ l.map (·.Key), mget k (mset h.Key h.Robot m) = none) ↔ (((h :: l).map (·.Key)).Nodup ∧ ∀ k ∈ (h :: l).map (·.Key), mget k m = none) := by
        simp only [List.map_cons, List.nodup_cons, List.mem_cons]
        constructor
        · rintro ⟨h1, h2⟩
          refine ⟨⟨fun hk => ?_, h1⟩, ?_⟩
          · have := h2 _ hk; rw [hm, if_pos rfl] at this; cases this
          · rintro k (rfl | hk)
            · exact hnone
            · have := h2 k hk; rw [hm] at this; split at this
              · cases this
              · exact this
        · rintro ⟨⟨h1, h2⟩, h3⟩
          refine ⟨h2, fun k hk => ?_⟩
          rw [hm, if_neg (fun e => h1 (by rw [← e]; exact hk))]
          exact h3 k (.inr hk)
      by_cases hq : (l.map (·.Key)).Nodup ∧ ∀ k ∈ l.map (·.Key), mget k (mset h.Key h.Robot m) = none
      · rw [if_pos hq, if_pos (hiff.1 hq)]
      · rw [if_neg hq, if_neg fun h => hq (hiff.2 h)]
theorem loadH_spec : ∀ {l acc : List Hold} {m : List (ByteArray × Int)} {a : Int}, HSpec acc (fun k => mget k m) → (m.map (·.1)).Nodup → HSpec (l.foldl (fun acc h => holdL h.Key h.Robot false acc) acc) (fun k => mget k (loadH m a l).1) ∧ ((loadH m a l).1.map (·.1)).Nodup ∧ (loadH m a l).1.length ≤ m.length + l.length
  | [], acc, m, a, h, hn => ⟨h, hn, by simp [loadH]⟩
  | x :: l, acc, m, a, h, hn => by
    rw [List.foldl_cons, loadH]
    obtain ⟨h1, h2, h3⟩ := loadH_spec (l := l) (acc := holdL x.Key x.Robot false acc) (m := mset x.Key x.Robot m) (a := if (mget x.Key m).isSome = true then worse a 2 else a) ((h.hold x.Key x.Robot false).congr fun k' => by rw [mget_mset x.Key k']; by_cases e : k' = x.Key <;> simp [e]) (mset_nodup hn)
    refine ⟨h1, h2, ?_⟩
    have h4 : (mset x.Key x.Robot m).length ≤ m.length + 1 := by rw [mset_len]; split <;> omega
    simp only [List.length_cons]; omega
theorem loadH_mem : ∀ {l : List Hold} {m : List (ByteArray × Int)} {a : Int} {k : ByteArray} {r : Int}, (l.map (·.Key)).Nodup → (mget k (loadH m a l).1 = some r ↔ (⟨k, r⟩ : Hold) ∈ l ∨ (k ∉ l.map (·.Key) ∧ mget k m = some r))
  | [], m, a, k, r, _ => by simp [loadH]
  | x :: l, m, a, k, r, hn => by
    rw [List.map_cons, List.nodup_cons] at hn
    rw [loadH, loadH_mem hn.2, mget_mset x.Key k]
    obtain ⟨xk, xr⟩ := x
    simp only [List.map_cons, List.mem_cons, Hold.mk.injEq]
    by_cases e : k = xk
    · subst e
      have hk := hn.1
      simp only at hk
      have hx : (⟨k, r⟩ : Hold) ∉ l := fun hh => hk (List.mem_map.2 ⟨_, hh, rfl⟩)
      simp [hk, hx, eq_comm]
    · simp [e]
def okP (q : Rec) : Prop := OkW q.Work ∧ okX q.Txn.k
theorem holdF_rel {holds : List Hold} : Rel (holdF holds) ⟨insAll holds, []⟩ :=
  ⟨(loadH_spec (l := holds) (acc := []) (m := []) (a := 0) ⟨by simp, fun h => by simp [mget]⟩ (by simp)).1, ⟨by simp, fun q => by simp [gW, holdF, mget]⟩⟩
theorem holdF_inv {holds : List Hold} {n : Nat} (hk : ∀ h ∈ holds, h.Key.size ≤ cap47 ∧ fits h.Robot) (hl : holds.length ≤ 40 * n) : Inv n (holdF holds) := by
  obtain ⟨h1, h2, h3⟩ := loadH_spec (l := holds) (acc := []) (m := []) (a := 0) ⟨by simp, fun h => by simp [mget]⟩ (by simp)
  refine ⟨h2, by simp [holdF], by simp [holdF], fun k r hm => ?_, ?_, by simp [holdF], fun x w h => ?_, fun k x => ⟨fun h => ?_, fun ⟨w, h, _⟩ => ?_⟩, fun x w h => ?_⟩
  · have : ∀ {l : List Hold} {m : List (ByteArray × Int)} {a : Int}, (∀ h ∈ l, h.Key.size ≤ cap47 ∧ fits h.Robot) → (∀ k r, mget k m = some r → k.size ≤ cap47 ∧ fits r) → ∀ k r, mget k (loadH m a l).1 = some r → k.size ≤ cap47 ∧ fits r := by
      intro l
      induction l with
      | nil => intro m a _ h k r hk; exact h k r hk
      | cons x l ih =>
        intro m a hx hm k r hk
        rw [loadH] at hk
        refine ih (fun h hh => hx h (by simp [hh])) (fun k' r' h' => ?_) k r hk
        rw [mget_mset x.Key k'] at h'
        split at h'
        · next e => cases h'; subst e; exact hx x (by simp)
        · exact hm k' r' h'
    exact this hk (fun k r h => by cases h) k r hm
  · show (loadH [] 0 holds).1.length ≤ _
    simp only [List.length_nil] at h3
    omega
  · simp [gW, holdF, mget] at h
  · simp [holdF, mget] at h
  · simp [gW, holdF, mget] at h
  · simp [gW, holdF, mget] at h
theorem prepE_none {s : TS} {x : Txn} {w : Work} (h : gW s x.k = none) : prepE s x w = if dupT w.ks then 1 else if wayT s w 0 w.ks = true then 0 else 140 := by
  have : ¬ (mget x.k s.works).isSome = true := by rw [gW_some, h]; simp
  exact if_neg this
theorem step_none {s : TS} {q : Rec} {l : List Rec} {cs : List Value} (hnd : ((q :: l).map (·.Txn.k)).Nodup) (h : ∀ r ∈ q :: l, gW s r.Txn.k = none) : ∀ r ∈ l, gW (if prepE s q.Txn q.Work = 0 then prepT s q.Txn q.Work cs else s) r.Txn.k = none := fun r hr => by
  rw [List.map_cons, List.nodup_cons] at hnd
  split
  · rw [gW_prep, if_neg fun e => hnd.1 (List.mem_map.2 ⟨r, hr, e⟩)]
    exact h r (by simp [hr])
  · exact h r (by simp [hr])
theorem loadP_low {s s' : TS} {l : List Rec} {a a' : Int} (h : LoadP s a l s' a') : (l.map (·.Txn.k)).Nodup → (∀ q ∈ l, gW s q.Txn.k = none) → (a = 0 ∨ a = 1 ∨ a = 140) → (a' = 0 ∨ a' = 1 ∨ a' = 140) ∧ (a = 1 ∨ (∃ q ∈ l, ¬ q.Work.ks.Nodup) → a' = 1) ∧ (a = 140 → (∀ q ∈ l, q.Work.ks.Nodup) → a' = 140) := by
  induction h with
  | nil =>
    intro _ _ h
    refine ⟨h, fun h' => ?_, fun h _ => h⟩
    rcases h' with h' | ⟨q, hq, _⟩
    · exact h'
    · cases hq
  | @cons s s' a a' r l cs h ih =>
    intro hnd hno ha
    have hst := step_none (cs := cs) hnd hno
    have hE := prepE_none (w := r.Work) (hno r (by simp))
    have hnd' := hnd
    rw [List.map_cons, List.nodup_cons] at hnd'
    have hw : worse a (prepE s r.Txn r.Work) = 0 ∨ worse a (prepE s r.Txn r.Work) = 1 ∨ worse a (prepE s r.Txn r.Work) = 140 := by
      rw [hE]
      rcases ha with rfl | rfl | rfl <;> split <;> (try split) <;> decide
    obtain ⟨i1, i2, i3⟩ := ih hnd'.2 hst hw
    refine ⟨i1, fun hh => ?_, fun hh hall => ?_⟩
    · rcases hh with rfl | ⟨q, hq, hqd⟩
      · refine i2 (.inl ?_)
        rw [hE]
        split <;> (try split) <;> decide
      · rcases List.mem_cons.1 hq with rfl | hq
        · refine i2 (.inl ?_)
          rw [hE, if_pos (dupT_iff.2 hqd)]
          rcases ha with rfl | rfl | rfl <;> decide
        · exact i2 (.inr ⟨q, hq, hqd⟩)
    · subst hh
      refine i3 ?_ fun q hq => hall q (by simp [hq])
      rw [hE, if_neg fun h => dupT_iff.1 h (hall r (by simp))]
      split <;> decide
theorem load_par : ∀ {l : List Rec} {s s' : TS} {m m' : Table} {n : Nat} {a' e : Int}, Inv n s → Rel s m → (∀ q ∈ l, okP q) → (l.map (·.Txn.k)).Nodup → (∀ q ∈ l, gW s q.Txn.k = none) → (∀ q ∈ l, q.Work.ks.Nodup) → LoadP s 0 l s' a' → RPrepL m l m' e → e = a' ∧ (e = 0 → Inv (n + l.length) s' ∧ Rel s' m')
  | [], s, s', m, m', n, a', e, I, r, _, _, _, _, hP, hR => by
    cases hP
    cases hR
    exact ⟨rfl, fun _ => ⟨I, r⟩⟩
  | q :: l, s, s', m, m', n, a', e, I, r, hok, hnd, hno, hks, hP, hR => by
    cases hP with
    | @cons _ _ _ _ _ _ cs hP =>
    have hst := step_none (cs := cs) hnd hno
    have hE := prepE_none (w := q.Work) (hno q (by simp))
    rw [if_neg fun h => dupT_iff.1 h (hks q (by simp))] at hE
    have hnd' := hnd
    rw [List.map_cons, List.nodup_cons] at hnd'
    cases hR with
    | stop h he =>
      obtain ⟨h1, h2⟩ := r.prepare I h
      rw [← h1] at hP hst
      have h140 : e = 140 := by
        rw [h1, hE] at he ⊢
        split at he
        · exact absurd rfl he
        · next hh => rw [if_neg hh]
      subst h140
      have := (loadP_low hP hnd'.2 hst (.inr (.inr (by decide)))).2.2 (by decide) fun q hq => hks q (by simp [hq])
      exact ⟨this.symm, fun h => absurd h (by decide)⟩
    | cons h t =>
      obtain ⟨h1, h2⟩ := r.prepare I h
      have h3 := h2 cs
      rw [← h1] at hP hst h3
      rw [if_pos rfl] at hP hst h3
      have hI := I.prep (cs := cs) (hok q (by simp)).1 (hok q (by simp)).2 h1.symm
      obtain ⟨g1, g2⟩ := load_par hI h3 (fun q hq => hok q (by simp [hq])) hnd'.2 hst (fun q hq => hks q (by simp [hq])) hP t
      refine ⟨g1, fun he => ?_⟩
      have := g2 he
      rw [List.length_cons, show n + (l.length + 1) = n + 1 + l.length by omega]
      exact this
/-- loading answers alike -/
theorem load_both {n : Nat} {holds : List Hold} {prep : List Rec} {s' : TS} {a' e : Int} {m' : Table} (hk : ∀ h ∈ holds, h.Key.size ≤ cap47 ∧ fits h.Robot) (hl : holds.length ≤ 40 * n) (hok : ∀ q ∈ prep, okP q)
    (hP : LoadP (holdF holds) (loadH [] 0 holds).2 prep s' a') (hR : RLoad holds prep m' e) : e = lastE a' prep ∧ (e = 0 → Inv (n + prep.length) s' ∧ Rel s' m') := by
  have hno : ∀ q ∈ prep, gW (holdF holds) q.Txn.k = none := fun q _ => by simp [gW, holdF, mget]
  have herr := loadH_err (l := holds) (m := []) (a := 0)
  have hnil : ∀ k ∈ holds.map (·.Key), mget k ([] : List (ByteArray × Int)) = none := fun k _ => rfl
  cases hR with
  | dupH h =>
    rw [if_neg fun hh => h hh.1] at herr
    rw [loadP_two hP herr, lastE_two]
    exact ⟨rfl, fun h => absurd h (by decide)⟩
  | dupP h0 h =>
    refine ⟨?_, fun h => absurd h (by decide)⟩
    unfold lastE
    rw [if_pos h, worse_2]
  | range h0 h1 h =>
    rw [if_pos ⟨h0, hnil⟩] at herr
    rw [herr] at hP
    have hnd : (prep.map (·.Txn.k)).Nodup := Classical.byContradiction h1
    have := (loadP_low hP hnd hno (.inl rfl)).2.1 (.inr h)
    refine ⟨?_, fun h => absurd h (by decide)⟩
    unfold lastE
    rw [if_neg h1, this]
  | conf h0 h1 h2 h he =>
    rw [if_pos ⟨h0, hnil⟩] at herr
    rw [herr] at hP
    have hnd : (prep.map (·.Txn.k)).Nodup := Classical.byContradiction h1
    obtain ⟨g1, g2⟩ := load_par (holdF_inv hk hl) holdF_rel hok hnd hno h2 hP h
    refine ⟨?_, fun h => absurd h he⟩
    unfold lastE
    rw [if_neg h1]
    exact g1
  | ok h0 h1 h2 h =>
    rw [if_pos ⟨h0, hnil⟩] at herr
    rw [herr] at hP
    have hnd : (prep.map (·.Txn.k)).Nodup := Classical.byContradiction h1
    obtain ⟨g1, g2⟩ := load_par (holdF_inv hk hl) holdF_rel hok hnd hno h2 hP h
    refine ⟨?_, fun _ => g2 rfl⟩
    unfold lastE
    rw [if_neg h1]
    exact g1
/-- what fits goes in -/
theorem loadP_all {s s' : TS} {l : List Rec} {a a' : Int} (h : LoadP s a l s' a') : ∀ {n : Nat}, a = 0 → Inv n s → (l.map (·.Txn.k)).Nodup → (∀ q ∈ l, gW s q.Txn.k = none) → (∀ q ∈ l, okP q ∧ q.Work.ks.Nodup) → (∀ q ∈ l, ∀ k ∈ q.Work.ks, mget k s.locked = none) → (∀ q ∈ l, ∀ k ∈ q.Work.Take, mget k s.held = none) → (l.Pairwise fun q r => ∀ k ∈ q.Work.ks, k ∉ r.Work.ks) →
    a' = 0 ∧ Inv (n + l.length) s' ∧ s'.held = s.held ∧ (∀ q ∈ l, gW s' q.Txn.k = some q.Work) ∧ ∀ k, (∀ q ∈ l, q.Txn.k ≠ k) → gW s' k = gW s k := by
  induction h with
  | nil => intro n ha I _ _ _ _ _ _; exact ⟨ha, I, rfl, fun q hq => (by cases hq), fun k _ => rfl⟩
  | @cons s s' a a' r l cs h ih =>
    intro n ha I hnd hno hok hlk htk hdj
    subst ha
    have hst := step_none (cs := cs) hnd hno
    have hE := prepE_none (w := r.Work) (hno r (by simp))
    have hnd' := hnd
    rw [List.map_cons, List.nodup_cons] at hnd'
    rw [List.pairwise_cons] at hdj
    have hway : wayT s r.Work 0 r.Work.ks = true := by
      rw [wayT_iff]
      intro j hj
      refine ⟨hlk r (by simp) _ (List.getElem_mem hj), ?_⟩
      by_cases hh : r.Work.Take.length ≤ 0 + j
      · exact .inl hh
      · right
        have e : r.Work.ks[j] = r.Work.Take[j]'(by omega) := by simp only [Work.ks]; rw [List.getElem_append_left (by omega)]
        rw [e]
        exact htk r (by simp) _ (List.getElem_mem _)
    rw [if_neg fun h => dupT_iff.1 h (hok r (by simp)).2, if_pos hway] at hE
    rw [hE, if_pos rfl] at h ih hst
    have hl := fun k => lockAll_get (x := r.Txn) (k := k) (ks := r.Work.ks) I.ld
    obtain ⟨g1, g2, g3, g4, g5⟩ := ih (n := n + 1) (by decide) (I.prep (hok r (by simp)).1.1 (hok r (by simp)).1.2 hE) hnd'.2 hst (fun q hq => hok q (by simp [hq])) (fun q hq k hk => by
      show mget k (lockAll r.Txn r.Work.ks s.locked) = none
      rw [(hl k).1, if_neg fun hk' => hdj.1 q hq k hk' hk]
      exact hlk q (by simp [hq]) k hk) (fun q hq k hk => htk q (by simp [hq]) k hk) hdj.2
    refine ⟨g1, by rw [List.length_cons, show n + (l.length + 1) = n + 1 + l.length by omega]; exact g2, g3, fun q hq => ?_, fun k hk => ?_⟩
    · rcases List.mem_cons.1 hq with rfl | hq
      · rw [g5 q.Txn.k fun r hr e => hnd'.1 (List.mem_map.2 ⟨r, hr, e⟩), gW_prep, if_pos rfl]
      · exact g4 q hq
    · rw [g5 k fun q hq => hk q (by simp [hq]), gW_prep, if_neg fun e => hk r (by simp) e.symm]
/-- a table's own lists go in again -/
theorem load_own {n : Nat} {s s' : TS} {m : Table} {a' : Int} (I : Inv n s) (r : Rel s m) (hP : LoadP (holdF (holdsL s)) (loadH [] 0 (holdsL s)).2 (prepL s) s' a') : lastE a' (prepL s) = 0 ∧ Inv n s' ∧ Rel s' m := by
  have hs := holdsL_spec I.hd
  have hp := prepL_spec I.wd
  have hkn : ((holdsL s).map (·.Key)).Nodup := by
    rw [List.nodup_iff_pairwise_ne, List.pairwise_map]
    exact hs.rise.imp fun h => slt_ne h
  have hxn : ((prepL s).map (·.Txn.k)).Nodup := by
    rw [List.nodup_iff_pairwise_ne, List.pairwise_map]
    exact hp.rise.imp fun h e => by rw [e] at h; exact ltK_irr h
  have herr := loadH_err (l := holdsL s) (m := []) (a := 0)
  rw [if_pos ⟨hkn, fun k _ => rfl⟩] at herr
  rw [herr] at hP
  have hget : ∀ k, mget k (holdF (holdsL s)).held = mget k s.held := fun k => by
    have h1 := fun r => loadH_mem (l := holdsL s) (m := []) (a := 0) (k := k) (r := r) hkn
    have h2 := fun r => hs.mem ⟨k, r⟩
    show mget k (loadH [] 0 (holdsL s)).1 = _
    cases hg : mget k (loadH [] 0 (holdsL s)).1 with
    | some v =>
      rcases (h1 v).1 hg with h3 | ⟨_, h3⟩
      · exact ((h2 v).1 h3).symm
      · cases h3
    | none =>
      cases hh : mget k s.held with
      | none => rfl
      | some v => have := (h1 v).2 (.inl ((h2 v).2 hh)); rw [hg] at this; cases this
  have hlen : (holdsL s).length = s.held.length := by simp [holdsL, sortT_len]
  have hI0 : Inv n (holdF (holdsL s)) := holdF_inv (fun h hh => I.hk _ _ ((hs.mem h).1 hh)) (by rw [hlen]; exact I.hn)
  obtain ⟨g1, g2, g3, g4, g5⟩ := loadP_all hP rfl hI0 hxn (fun q _ => by simp [gW, holdF, mget]) (fun q hq => by
      obtain ⟨⟨k1, k2⟩, k3⟩ := I.ww _ _ (I.recs hq)
      exact ⟨⟨k1, k3⟩, k2⟩) (fun q hq k hk => rfl) (fun q hq k hk => by rw [hget]; exact I.tk _ _ (I.recs hq) k hk) (by
      refine List.Pairwise.imp_of_mem (fun {a b} ha hb hab k hk1 hk2 => ?_) hp.rise
      have e1 := (I.lk k a.Txn).2 ⟨_, I.recs ha, hk1⟩
      have e2 := (I.lk k b.Txn).2 ⟨_, I.recs hb, hk2⟩
      have e3 : a.Txn = b.Txn := Option.some.inj (e1.symm.trans e2)
      rw [e3] at hab
      exact ltK_irr hab)
  have hgW : ∀ k, gW s' k = gW s k := fun k => by
    by_cases hk : ∃ q ∈ prepL s, q.Txn.k = k
    · obtain ⟨q, hq, rfl⟩ := hk
      rw [g4 q hq, I.recs hq]
    · have hk' : ∀ q ∈ prepL s, q.Txn.k ≠ k := fun q hq e => hk ⟨q, hq, e⟩
      rw [g5 k hk']
      have hnone : gW s k = none := by
        cases hg : gW s k with
        | none => rfl
        | some w => exact absurd (k_toTx k) (hk' (recW (toTx k) w) ((hp.mem _).2 ⟨w, by show gW s (toTx k).k = _; rw [k_toTx]; exact hg, rfl⟩))
      rw [hnone]
      simp [gW, holdF, mget]
  have hR : Rel s' m := ⟨r.h.congr fun k => by rw [g3, hget], r.p.congr fun k => (hgW k).symm⟩
  refine ⟨?_, ?_, hR⟩
  · unfold lastE
    rw [if_neg (show ¬ dupX (prepL s) from fun h => h hxn)]
    exact g1
  · have e1 := hR.held g2
    have e2 := r.held I
    have e3 := hR.prep g2
    have e4 := r.prep I
    have l1 : s'.held.length = s.held.length := by
      have := congrArg List.length (e1.trans e2.symm)
      simpa [holdsL, sortT_len] using this
    have l2 : s'.works.length = s.works.length := by
      have := congrArg List.length (e3.trans e4.symm)
      simpa [prepL, sort3_len] using this
    exact { g2 with hn := by rw [l1]; exact I.hn, wn := by rw [l2]; exact I.wn }
end Go.Proofs.YtkhbfjkioehgfaaGreatDoor
