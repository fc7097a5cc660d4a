/- Decisions: none is told both of what is voting or open; for only behind a vote of each part. No program in sight. -/
import Derived.Test.YthoafjeampbkeaaN2
set_option linter.unusedVariables false
set_option linter.unusedSimpArgs false
namespace Go.Proofs.Ythoafjeampbkeaa
open Go Go.Sx Go.Proofs
/-- those that have voted for x, each once -/
def votersL (x : Txn) : List Message → List Message → List Int
  | _, [] => []
  | pre, m :: l => (if m.Txn = x ∧ ∀ v ∈ pre, ¬ (v.Txn = x ∧ v.From = m.From) then [m.From] else []) ++ votersL x (pre ++ [m]) l
def votersN (x : Txn) (votes : List Message) : Nat := (votersL x [] votes).length
theorem mem_voters {x : Txn} {p : Int} : ∀ {l pre : List Message}, (∃ v ∈ l, v.Txn = x ∧ v.From = p) → p ∈ votersL x pre l ∨ ∃ v ∈ pre, v.Txn = x ∧ v.From = p
  | [], pre, ⟨v, hv, _⟩ => by cases hv
  | m :: l, pre, ⟨v, hv, h1, h2⟩ => by
    unfold votersL
    rw [List.mem_append]
    by_cases hm : m.Txn = x ∧ m.From = p
    · by_cases hp : ∃ v ∈ pre, v.Txn = x ∧ v.From = p
      · exact .inr hp
      · refine .inl (.inl ?_)
        rw [if_pos ⟨hm.1, fun v hv hh => hp ⟨v, hv, hh.1, hh.2.trans hm.2⟩⟩, hm.2]
        exact List.mem_singleton.2 rfl
    · rcases List.mem_cons.1 hv with rfl | hv
      · exact absurd ⟨h1, h2⟩ hm
      · rcases mem_voters (pre := pre ++ [m]) ⟨v, hv, h1, h2⟩ with h | ⟨v', hv', h'⟩
        · exact .inl (.inr h)
        · rcases List.mem_append.1 hv' with hv' | hv'
          · exact .inr ⟨v', hv', h'⟩
          · rw [List.mem_singleton] at hv'; subst hv'; exact absurd h' hm
def voted (votes : List Message) (k : K3) (p : Int) : Prop := ∃ v ∈ votes, v.Txn.k = k ∧ v.From = p
theorem voters_ge {x : Txn} {votes : List Message} {ps : List Int} (hn : ps.Nodup) (h : ∀ p ∈ ps, voted votes x.k p) : ps.length ≤ votersN x votes := by
  refine nodup_sub_len hn fun p hp => ?_
  obtain ⟨v, hv, h1, h2⟩ := h p hp
  rcases mem_voters (pre := []) ⟨v, hv, k_inj h1, h2⟩ with h | ⟨v', hv', _⟩
  · exact h
  · cases hv'
structure Dec (s : CS) (yes no votes : List Message) (pm : List (K3 × Int)) : Prop where
  begun : ∀ k t, mget k s.ts = some t → mget k pm = some (t.parts.length : Int)
  heard : ∀ k t, mget k s.ts = some t → t.op = false → ∀ p, t.hd p = true → voted votes k p
  opened : ∀ k t, mget k s.ts = some t → t.op = true → ∀ p ∈ t.parts, voted votes k p
  old : ∀ k v, mget k pm = some v → k.2.1 = s.life ∧ k.2.2 ≤ s.count
  no : ∀ m ∈ no, mget m.Txn.k s.ts = none ∧ (mget m.Txn.k pm).isSome = true
theorem dec0 {node life : Int} : Dec ⟨node, life, 0, []⟩ [] [] [] [] := ⟨fun k t h => (by cases h), fun k t h => (by cases h), fun k t h => (by cases h), fun k v h => (by cases h), fun m h => by cases h⟩
theorem voted.more {votes l : List Message} {k : K3} {p : Int} (h : voted votes k p) : voted (votes ++ l) k p := by
  obtain ⟨v, hv, h⟩ := h; exact ⟨v, List.mem_append_left _ hv, h⟩
/-- what is told -/
structure Told1 (s : CS) (votes : List Message) (pm : List (K3 × Int)) (d : Message) : Prop where
  yes : d.Kind = 3 → d.Yes = true → ∀ n : Nat, (n : Int) = (mget d.Txn.k pm).getD 0 → n ≤ votersN d.Txn votes
  no : d.Kind = 3 → d.Yes = false → mget d.Txn.k s.ts = none ∧ (mget d.Txn.k pm).isSome = true
theorem Dec.begin {n : Nat} {s : CS} {yes no votes : List Message} {pm : List (K3 × Int)} (D : Dec s yes no votes pm) (I : CInv n s) {ws : List (Int × CW)} {now : Int} (hne : ws ≠ []) :
    Dec (beginS s now ws) yes no votes (mset (newX s).k (ws.length : Int) pm) := by
  unfold beginS
  rw [if_neg hne]
  have hf := I.fresh
  refine ⟨fun k t hk => ?_, fun k t hk ho p hp => ?_, fun k t hk ho p hp => ?_, fun k v hk => ?_, fun m hm => ?_⟩
  · have hk' : mget k (mset (newX s).k (beganT now ws) s.ts) = some t := hk
    rw [mget_mset] at hk' ⊢
    split at hk'
    · next e => rw [if_pos e]; cases hk'; show some (ws.length : Int) = some ((ws.map (·.1)).length : Int); rw [List.length_map]
    · next e => rw [if_neg e]; exact D.begun k t hk'
  · have hk' : mget k (mset (newX s).k (beganT now ws) s.ts) = some t := hk
    rw [mget_mset] at hk'
    split at hk'
    · cases hk'; cases hp
    · exact D.heard k t hk' ho p hp
  · have hk' : mget k (mset (newX s).k (beganT now ws) s.ts) = some t := hk
    rw [mget_mset] at hk'
    split at hk'
    · cases hk'; cases ho
    · exact D.opened k t hk' ho p hp
  · rw [mget_mset] at hk
    show k.2.1 = s.life ∧ k.2.2 ≤ s.count + 1
    split at hk
    · next e => subst e; exact ⟨rfl, Int.le_refl _⟩
    · have := D.old k v hk; omega
  · obtain ⟨h1, h2⟩ := D.no m hm
    have hne2 : m.Txn.k ≠ (newX s).k := fun e => by
      rw [e] at h2
      cases hg : mget (newX s).k pm with
      | none => rw [hg] at h2; cases h2
      | some v => have := (D.old _ _ hg).2; have e2 : (newX s).k.2.2 = s.count + 1 := rfl; omega
    refine ⟨?_, ?_⟩
    · show mget m.Txn.k (mset (newX s).k (beganT now ws) s.ts) = none
      rw [mget_mset, if_neg hne2]; exact h1
    · rw [mget_mset, if_neg hne2]; exact h2
theorem told_open {n : Nat} {s : CS} {votes : List Message} {pm : List (K3 × Int)} {x : Txn} {t : TX} (I : CInv n s) (hp : mget x.k pm = some (t.parts.length : Int)) (ht : TInv t) (hv : ∀ p ∈ t.parts, voted votes x.k p) : ∀ n : Nat, (n : Int) = (mget x.k pm).getD 0 → n ≤ votersN x votes := by
  intro m hm
  rw [hp, Option.getD_some] at hm
  have := voters_ge ht.parts_nodup hv
  omega
theorem TX.hd_hear {t : TX} {p q : Int} : (hear1 t p).hd q = true ↔ q = p ∨ t.hd q = true := by
  unfold TX.hd
  rw [show (hear1 t p).heard = mset p 1 t.heard from rfl, mget_mset]
  split
  · next e => simp [e]
  · next e => simp [e]
theorem Dec.put {s : CS} {yes no votes : List Message} {pm : List (K3 × Int)} (D : Dec s yes no votes pm) {x : Txn} (h : s.isT x) {t : TX} (hl : t.parts = (s.tx x).parts) (hh : t.op = false → ∀ p, t.hd p = true → voted votes x.k p) (ho : t.op = true → ∀ p ∈ t.parts, voted votes x.k p) : Dec (s.put x.k t) yes no votes pm := by
  refine ⟨fun k t' hk => ?_, fun k t' hk => ?_, fun k t' hk => ?_, D.old, fun m hm => ?_⟩
  · have hk' : mget k (mset x.k t s.ts) = some t' := hk
    rw [mget_mset] at hk'
    split at hk'
    · next e => subst e; cases hk'; rw [hl]; exact D.begun _ _ (CS.get_tx h)
    · exact D.begun k t' hk'
  · have hk' : mget k (mset x.k t s.ts) = some t' := hk
    rw [mget_mset] at hk'
    split at hk'
    · next e => subst e; cases hk'; exact hh
    · exact D.heard k t' hk'
  · have hk' : mget k (mset x.k t s.ts) = some t' := hk
    rw [mget_mset] at hk'
    split at hk'
    · next e => subst e; cases hk'; exact ho
    · exact D.opened k t' hk'
  · obtain ⟨h1, h2⟩ := D.no m hm
    refine ⟨?_, h2⟩
    show mget m.Txn.k (mset x.k t s.ts) = none
    rw [mget_mset, if_neg fun e => by rw [e, CS.get_tx h] at h1; cases h1]
    exact h1
theorem Dec.cut {n : Nat} {s : CS} {yes no votes : List Message} {pm : List (K3 × Int)} (D : Dec s yes no votes pm) (I : CInv n s) {k0 : K3} : Dec (s.cut k0) yes no votes pm := by
  refine ⟨fun k t hk => D.begun k t (mget_mdel_some I.nd hk), fun k t hk => D.heard k t (mget_mdel_some I.nd hk), fun k t hk => D.opened k t (mget_mdel_some I.nd hk), D.old, fun m hm => ?_⟩
  obtain ⟨h1, h2⟩ := D.no m hm
  refine ⟨?_, h2⟩
  show mget m.Txn.k (mdel k0 s.ts) = none
  rw [mget_mdel I.nd]
  split
  · rfl
  · exact h1
theorem Dec.votes {s : CS} {yes no votes l : List Message} {pm : List (K3 × Int)} (D : Dec s yes no votes pm) : Dec s yes no (votes ++ l) pm :=
  ⟨D.begun, fun k t hk ho p hp => (D.heard k t hk ho p hp).more, fun k t hk ho p hp => (D.opened k t hk ho p hp).more, D.old, D.no⟩
/-- what is told is kept in mind -/
theorem Dec.told {s : CS} {yes no votes l y' n' : List Message} {pm : List (K3 × Int)} (D : Dec s yes no votes pm) (hn : ∀ m ∈ n', mget m.Txn.k s.ts = none ∧ (mget m.Txn.k pm).isSome = true) : Dec s (yes ++ y') (no ++ n') votes pm :=
  ⟨D.begun, D.heard, D.opened, D.old, fun m hm => (List.mem_append.1 hm).elim (D.no m) (hn m)⟩
theorem Dec.any {s : CS} {yes no y' votes : List Message} {pm : List (K3 × Int)} (D : Dec s yes no votes pm) : Dec s y' no votes pm := ⟨D.begun, D.heard, D.opened, D.old, D.no⟩
theorem mem_againL {n : Int} {x : Txn} {t : TX} {d : Message} (h : d ∈ againL n x t) : d.Txn = x ∧ (d.Kind = 3 → t.op = true ∧ d.Yes = true) := by
  unfold againL at h
  obtain ⟨p, hp, rfl⟩ := List.mem_map.1 h
  unfold saidM
  split
  · next ho => exact ⟨rfl, fun _ => ⟨ho, rfl⟩⟩
  · exact ⟨rfl, fun k => by cases k⟩
theorem mem_noL {n : Int} {x : Txn} {t : TX} {d : Message} (h : d ∈ noL n x t) : d.Txn = x ∧ d.Kind = 3 ∧ d.Yes = false := by
  unfold noL at h
  obtain ⟨p, hp, rfl⟩ := List.mem_map.1 h
  exact ⟨rfl, rfl, rfl⟩
/-- a message that is heard -/
theorem Dec.hear {n : Nat} {s : CS} {yes no votes : List Message} {pm : List (K3 × Int)} (D : Dec s yes no votes pm) (I : CInv n s) {m : Message}
    (hv : m.Kind = 2 → m.Yes = true → m.To = s.node → m ∈ votes) (ha : m.Kind = 5 → (mget m.Txn.k pm).isSome = true) :
    Dec (cHear s m).s yes no votes pm ∧ ∀ d ∈ (cHear s m).out, Told1 (cHear s m).s votes pm d := by
  unfold cHear
  split
  · exact ⟨D, fun d hd => by cases hd⟩
  next hf =>
  have hf' : forC s m := Classical.byContradiction hf
  split
  · next h =>
    refine ⟨D, fun d hd => ?_⟩
    obtain rfl := List.mem_singleton.1 hd
    refine ⟨fun _ hy => ?_, fun _ hy => ?_⟩
    · have hi : s.isT m.Txn := of_decide_eq_true hy
      have ho : (s.tx m.Txn).op = true := h.2.resolve_left fun e => e hi
      exact told_open I (D.begun _ _ (CS.get_tx hi)) (I.tinv hi) (D.opened _ _ (CS.get_tx hi) ho)
    · have hi : ¬ s.isT m.Txn := of_decide_eq_false hy
      refine ⟨?_, ha h.1⟩
      show mget m.Txn.k s.ts = none
      cases hg : mget m.Txn.k s.ts with
      | none => rfl
      | some t => exact absurd (show s.isT m.Txn by unfold CS.isT; rw [hg]; rfl) hi
  split
  · next h =>
    refine ⟨D.cut I, fun d hd => ?_⟩
    obtain ⟨h1, h2, h3⟩ := mem_noL hd
    refine ⟨fun _ hy => (by rw [h3] at hy; cases hy), fun _ _ => ?_⟩
    rw [h1]
    refine ⟨?_, by rw [D.begun _ _ (CS.get_tx h.2.1.1)]; rfl⟩
    show mget m.Txn.k (mdel m.Txn.k s.ts) = none
    rw [mget_mdel I.nd, if_pos rfl]
  next hno =>
  split
  · next h =>
    have hi := h.2.1.1
    have hy : m.Yes = true := by
      cases hy : m.Yes with
      | true => rfl
      | false => exact absurd ⟨h.1, h.2.1, h.2.2, hy⟩ hno
    have hvm : voted votes m.Txn.k m.From := ⟨m, hv h.1 hy hf'.1, rfl, rfl⟩
    have hhd : ∀ p, (hear1 (s.tx m.Txn) m.From).hd p = true → voted votes m.Txn.k p := fun p hp => by
      rcases TX.hd_hear.1 hp with rfl | hp
      · exact hvm
      · exact D.heard _ _ (CS.get_tx hi) h.2.2 p hp
    split
    · refine ⟨D.put hi rfl (fun _ => hhd) (fun ho => ?_), fun d hd => by cases hd⟩
      have : (s.tx m.Txn).op = true := ho
      rw [h.2.2] at this; cases this
    · next hall =>
      have hall' : allHeard (hear1 (s.tx m.Txn) m.From) := Classical.byContradiction hall
      have ti := I.tinv hi
      have hev : ∀ p ∈ (s.tx m.Txn).parts, voted votes m.Txn.k p := fun p hp => by
        refine hhd p ?_
        refine (all_heard (t := s.tx m.Txn) (ps := (s.tx m.Txn).parts) (hs := mset m.From 1 (s.tx m.Txn).heard) ti.parts_nodup (mset_nodup ti.hn) (fun q hq => ?_)).1 hall' p hp
        have h1 := mget_of_mem (mset_nodup ti.hn) hq
        rw [mget_mset] at h1
        split at h1
        · next e => rw [e]; exact h.2.1.2
        · exact (ti.hp q (mget_mem h1)).1
      refine ⟨D.put hi rfl (fun e => by cases e) (fun _ => hev), fun d hd => ?_⟩
      obtain ⟨h1, h2⟩ := mem_againL hd
      refine ⟨fun _ _ => ?_, fun k hy => by rw [(h2 k).2] at hy; cases hy⟩
      rw [h1]
      exact told_open I (t := s.tx m.Txn) (D.begun _ _ (CS.get_tx hi)) ti hev
  split
  · next h =>
    have hi := h.2.1.1
    split
    · refine ⟨D.put hi rfl (fun ho => ?_) (fun _ p hp => D.opened _ (s.tx m.Txn) (CS.get_tx hi) h.2.2 p hp), fun d hd => by cases hd⟩
      have : (s.tx m.Txn).op = false := ho
      rw [h.2.2] at this; cases this
    · exact ⟨D.cut I, fun d hd => by cases hd⟩
  · exact ⟨D, fun d hd => by cases hd⟩
theorem Dec.step {n : Nat} {s : CS} {yes no votes : List Message} {pm : List (K3 × Int)} (D : Dec s yes no votes pm) (I : CInv n s) {now : Int} :
    Dec (stepS s now) yes no votes pm ∧ ∀ d ∈ stepOut s now, Told1 (stepS s now) votes pm d := by
  refine ⟨⟨fun k t hk => D.begun k t ((stepS_get I).1 hk).1, fun k t hk => D.heard k t ((stepS_get I).1 hk).1, fun k t hk => D.opened k t ((stepS_get I).1 hk).1, D.old, fun m hm => ?_⟩, fun d hd => ?_⟩
  · obtain ⟨h1, h2⟩ := D.no m hm
    refine ⟨?_, h2⟩
    cases hg : mget m.Txn.k (stepS s now).ts with
    | none => rfl
    | some t => have := ((stepS_get I).1 hg).1; rw [h1] at this; cases this
  · unfold stepOut at hd
    obtain ⟨k, hk, hd⟩ := List.mem_flatMap.1 hd
    rw [mem_allC] at hk
    cases hg : mget k s.ts with
    | none => rw [hg] at hk; cases hk
    | some t =>
      unfold stepOut1 at hd
      rw [hg, Option.getD_some] at hd
      split at hd
      · next hgo =>
        obtain ⟨h1, h2, h3⟩ := mem_noL hd
        refine ⟨fun _ hy => (by rw [h3] at hy; cases hy), fun _ _ => ?_⟩
        rw [h1, k_toTx]
        refine ⟨?_, by rw [D.begun _ _ hg]; rfl⟩
        cases hg2 : mget k (stepS s now).ts with
        | none => rfl
        | some t2 => obtain ⟨h4, h5⟩ := (stepS_get I).1 hg2; rw [hg] at h4; cases h4; exact absurd hgo h5
      · obtain ⟨h1, h2⟩ := mem_againL hd
        refine ⟨fun k3 _ => ?_, fun k hy => by rw [(h2 k).2] at hy; cases hy⟩
        rw [h1]
        have ho := (h2 k3).1
        exact told_open I (x := toTx k) (t := t) (by rw [k_toTx]; exact D.begun _ _ hg) (I.ti _ _ hg) (by rw [k_toTx]; exact D.opened _ _ hg ho)
end Go.Proofs.Ythoafjeampbkeaa
