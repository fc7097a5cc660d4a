/- What a table keeps to, and how it stands to the reference's. No program in sight. -/
import Derived.Test.YtkhbfjkioehgfaaGreatDoorLS
set_option linter.unusedVariables false
set_option linter.unusedSimpArgs false
namespace Go.Proofs.YtkhbfjkioehgfaaGreatDoor
open Go Go.Sx Go.Proofs
/-- a work that may be kept -/
structure OkW (w : Work) : Prop where
  take : w.Take.length ≤ 40
  drop : w.Drop.length ≤ 40
  rob : fits w.Robot
  size : ∀ k ∈ w.ks, k.size ≤ cap47
def okX (x : K3) : Prop := fits x.1 ∧ fits x.2.1 ∧ fits x.2.2
structure Inv (n : Nat) (s : TS) : Prop where
  hd : (s.held.map (·.1)).Nodup
  ld : (s.locked.map (·.1)).Nodup
  wd : (s.works.map (·.1)).Nodup
  hk : ∀ k r, mget k s.held = some r → k.size ≤ cap47 ∧ fits r
  hn : s.held.length ≤ 40 * n
  wn : s.works.length ≤ n
  ww : ∀ x w, gW s x = some w → (OkW w ∧ w.ks.Nodup) ∧ okX x
  lk : ∀ k x, mget k s.locked = some x ↔ ∃ w, gW s x.k = some w ∧ k ∈ w.ks
  tk : ∀ x w, gW s x = some w → ∀ k ∈ w.Take, mget k s.held = none
theorem Inv.more {n n' : Nat} {s : TS} (h : Inv n s) (hn : n ≤ n') : Inv n' s := { h with hn := by have := h.hn; omega, wn := by have := h.wn; omega }
theorem Inv.ok {n : Nat} {s : TS} (h : Inv n s) (hn : n ≤ 1000) : TsOk s := by
  refine ⟨fun q hq => (h.hk q.1 q.2 (mget_of_mem h.hd hq)).1, fun q hq => (h.hk q.1 q.2 (mget_of_mem h.hd hq)).2, by have := h.hn; omega, fun q hq => ?_, by have := h.wn; omega⟩
  exact (h.ww q.1 q.2.2 (by unfold gW; rw [mget_of_mem h.wd (k := q.1) (v := q.2) hq]; rfl)).2
theorem inv0 : Inv 0 ⟨[], [], []⟩ := ⟨by simp, by simp, by simp, fun k r h => (by cases h), by simp, by simp, fun x w h => (by cases h), fun k x => ⟨fun h => (by cases h), fun ⟨w, h, _⟩ => (by cases h)⟩, fun x w h => (by cases h)⟩
theorem lockAll_get {x : Txn} {k : ByteArray} : ∀ {ks : List ByteArray} {l : List (ByteArray × Txn)}, (l.map (·.1)).Nodup → mget k (lockAll x ks l) = (if k ∈ ks then some x else mget k l) ∧ ((lockAll x ks l).map (·.1)).Nodup
  | [], l, hn => ⟨by simp [lockAll], hn⟩
  | a :: ks, l, hn => by
    unfold lockAll
    rw [List.foldl_cons]
    obtain ⟨h1, h2⟩ := lockAll_get (x := x) (k := k) (ks := ks) (l := mset a x l) (mset_nodup hn)
    unfold lockAll at h1 h2
    refine ⟨?_, h2⟩
    rw [h1, mget_mset]
    by_cases e : k ∈ ks
    · simp [e]
    · by_cases e2 : k = a <;> simp [e, e2]
theorem unlockAll_get {k : ByteArray} : ∀ {ks : List ByteArray} {l : List (ByteArray × Txn)}, (l.map (·.1)).Nodup → mget k (unlockAll ks l) = (if k ∈ ks then none else mget k l) ∧ ((unlockAll ks l).map (·.1)).Nodup
  | [], l, hn => ⟨by simp [unlockAll], hn⟩
  | a :: ks, l, hn => by
    unfold unlockAll
    rw [List.foldl_cons]
    obtain ⟨h1, h2⟩ := unlockAll_get (k := k) (ks := ks) (l := mdel a l) (mdel_nodup hn)
    unfold unlockAll at h1 h2
    refine ⟨?_, h2⟩
    rw [h1, mget_mdel a k hn]
    by_cases e : k ∈ ks
    · simp [e]
    · by_cases e2 : k = a <;> simp [e, e2]
theorem takeAll_get {r : Int} {k : ByteArray} : ∀ {ks : List ByteArray} {l : List (ByteArray × Int)}, (l.map (·.1)).Nodup → mget k (takeAll r ks l) = (if k ∈ ks then some r else mget k l) ∧ ((takeAll r ks l).map (·.1)).Nodup ∧ (takeAll r ks l).length ≤ l.length + ks.length
  | [], l, hn => ⟨by simp [takeAll], hn, by simp [takeAll]⟩
  | a :: ks, l, hn => by
    unfold takeAll
    rw [List.foldl_cons]
    obtain ⟨h1, h2, h3⟩ := takeAll_get (r := r) (k := k) (ks := ks) (l := mset a r l) (mset_nodup hn)
    unfold takeAll at h1 h2 h3
    refine ⟨?_, h2, ?_⟩
    · rw [h1, mget_mset]
      by_cases e : k ∈ ks
      · simp [e]
      · by_cases e2 : k = a <;> simp [e, e2]
    · have h4 : (mset a r l).length ≤ l.length + 1 := by rw [mset_len]; split <;> omega
      simp only [List.length_cons]; omega
theorem mdel_len {κ ν : Type} [DecidableEq κ] {m : List (κ × ν)} {k : κ} : (mdel k m).length ≤ m.length := (mdel_sub k m).length_le
theorem dropAll_get {r : Int} {k : ByteArray} : ∀ {ks : List ByteArray} {l : List (ByteArray × Int)}, (l.map (·.1)).Nodup → mget k (dropAll r ks l) = (if k ∈ ks ∧ mget k l = some r then none else mget k l) ∧ ((dropAll r ks l).map (·.1)).Nodup ∧ (dropAll r ks l).length ≤ l.length
  | [], l, hn => ⟨by simp [dropAll], hn, by simp [dropAll]⟩
  | a :: ks, l, hn => by
    unfold dropAll
    rw [List.foldl_cons]
    have hc : ((mget a l).isSome = true ∧ (mget a l).getD 0 = r) ↔ mget a l = some r := by
      cases mget a l <;> simp
    by_cases hq : mget a l = some r
    · rw [if_pos (hc.2 hq)]
      obtain ⟨h1, h2, h3⟩ := dropAll_get (r := r) (k := k) (ks := ks) (l := mdel a l) (mdel_nodup hn)
      unfold dropAll at h1 h2 h3
      refine ⟨?_, h2, by have := mdel_len (m := l) (k := a); omega⟩
      rw [h1, mget_mdel a k hn]
      by_cases e2 : k = a
      · subst e2; simp [hq]
      · simp [e2]
    · rw [if_neg fun h => hq (hc.1 h)]
      obtain ⟨h1, h2, h3⟩ := dropAll_get (r := r) (k := k) (ks := ks) (l := l) hn
      unfold dropAll at h1 h2 h3
      refine ⟨?_, h2, h3⟩
      rw [h1]
      by_cases e2 : k = a
      · subst e2; simp [hq]
      · simp [e2]
theorem letGo_get {now : Int} {k : ByteArray} : ∀ {ks : List ByteArray} {l : List (ByteArray × Int)}, (l.map (·.1)).Nodup → mget k (letGo now ks l) = (if k ∈ ks ∧ goneK now k = true then none else mget k l) ∧ ((letGo now ks l).map (·.1)).Nodup ∧ (letGo now ks l).length ≤ l.length
  | [], l, hn => ⟨by simp [letGo], hn, by simp [letGo]⟩
  | a :: ks, l, hn => by
    unfold letGo
    rw [List.foldl_cons]
    by_cases hq : goneK now a = true
    · rw [if_pos hq]
      obtain ⟨h1, h2, h3⟩ := letGo_get (now := now) (k := k) (ks := ks) (l := mdel a l) (mdel_nodup hn)
      unfold letGo at h1 h2 h3
      refine ⟨?_, h2, by have := mdel_len (m := l) (k := a); omega⟩
      rw [h1, mget_mdel a k hn]
      by_cases e2 : k = a
      · subst e2; simp [hq]
      · simp [e2]
    · rw [if_neg hq]
      obtain ⟨h1, h2, h3⟩ := letGo_get (now := now) (k := k) (ks := ks) (l := l) hn
      unfold letGo at h1 h2 h3
      refine ⟨?_, h2, h3⟩
      rw [h1]
      by_cases e2 : k = a
      · subst e2; simp [hq]
      · simp [e2]
theorem wayT_iff {s : TS} {w : Work} : ∀ {l : List ByteArray} {i : Nat}, wayT s w i l = true ↔ ∀ j (hj : j < l.length), mget l[j] s.locked = none ∧ (w.Take.length ≤ i + j ∨ mget l[j] s.held = none)
  | [], i => by simp [wayT]
  | k :: l, i => by
    have ih := wayT_iff (s := s) (w := w) (l := l) (i := i + 1)
    simp only [wayT, Bool.and_eq_true, ih, Bool.not_eq_true', Option.isSome_eq_false_iff, Option.isNone_iff_eq_none, Bool.or_eq_true, decide_eq_true_eq]
    constructor
    · rintro ⟨⟨h1, h2⟩, h3⟩ j hj
      cases j with
      | zero => exact ⟨h1, by simpa using h2⟩
      | succ j =>
        have := h3 j (by simpa using hj)
        rw [show i + 1 + j = i + (j + 1) by omega] at this
        simpa using this
    · intro h
      refine ⟨?_, fun j hj => ?_⟩
      · have := h 0 (by simp)
        simpa using this
      · have := h (j + 1) (by simpa using hj)
        rw [show i + 1 + j = i + (j + 1) by omega]
        simpa using this
theorem wayT_ks {s : TS} {w : Work} (h : wayT s w 0 w.ks = true) : (∀ k ∈ w.ks, mget k s.locked = none) ∧ ∀ k ∈ w.Take, mget k s.held = none := by
  rw [wayT_iff] at h
  refine ⟨fun k hk => ?_, fun k hk => ?_⟩
  · obtain ⟨j, hj, rfl⟩ := List.getElem_of_mem hk
    exact (h j hj).1
  · obtain ⟨j, hj, rfl⟩ := List.getElem_of_mem hk
    have hj2 : j < w.ks.length := by simp only [Work.ks, List.length_append]; omega
    have e : w.ks[j] = w.Take[j] := by simp only [Work.ks]; rw [List.getElem_append_left hj]
    have := (h j hj2).2
    rw [e] at this
    rcases this with h1 | h1
    · omega
    · exact h1
theorem prepE_zero {s : TS} {x : Txn} {w : Work} (h : prepE s x w = 0) : gW s x.k = none ∧ w.ks.Nodup ∧ wayT s w 0 w.ks = true := by
  unfold prepE at h
  split at h
  · cases h
  · next h1 =>
    split at h
    · cases h
    · next h2 =>
      split at h
      · next h3 =>
        refine ⟨?_, ?_, h3⟩
        · unfold gW
          cases hm : mget x.k s.works with
          | none => rfl
          | some v => rw [hm] at h1; exact absurd rfl h1
        · rw [dupT_iff] at h2; exact Classical.byContradiction h2
      · cases h
theorem gW_prep {s : TS} {x : Txn} {w : Work} {cs : List Value} (k : K3) : gW (prepT s x w cs) k = if k = x.k then some w else gW s k := by
  unfold gW prepT
  rw [mget_mset]
  split <;> rfl
theorem Inv.prep {n : Nat} {s : TS} {x : Txn} {w : Work} {cs : List Value} (h : Inv n s) (hw : OkW w) (hx : okX x.k) (he : prepE s x w = 0) : Inv (n + 1) (prepT s x w cs) := by
  obtain ⟨h1, h2, h3⟩ := prepE_zero he
  obtain ⟨h4, h5⟩ := wayT_ks h3
  have hl := fun k => lockAll_get (x := x) (k := k) (ks := w.ks) h.ld
  have hg := fun k => gW_prep (s := s) (x := x) (w := w) (cs := cs) k
  refine ⟨h.hd, (hl ⟨#[]⟩).2, mset_nodup h.wd, h.hk, by have := h.hn; show s.held.length ≤ _; omega, ?_, fun y w' hy => ?_, fun k y => ?_, fun y w' hy => ?_⟩
  · show (mset x.k (cs, w) s.works).length ≤ _
    rw [mset_len]
    have := h.wn
    split <;> omega
  · rw [hg] at hy
    split at hy
    · next e => cases hy; subst e; exact ⟨⟨hw, h2⟩, hx⟩
    · exact h.ww y w' hy
  · show mget k (lockAll x w.ks s.locked) = some y ↔ _
    rw [(hl k).1, hg]
    by_cases hk : k ∈ w.ks
    · rw [if_pos hk]
      constructor
      · intro e
        cases e
        exact ⟨w, by rw [if_pos rfl], hk⟩
      · rintro ⟨w', e1, e2⟩
        split at e1
        · next e => rw [k_inj e]
        · have := (h.lk k y).2 ⟨w', e1, e2⟩
          rw [h4 k hk] at this; cases this
    · rw [if_neg hk, h.lk k y]
      constructor
      · rintro ⟨w', e1, e2⟩
        refine ⟨w', ?_, e2⟩
        rw [if_neg, e1]
        intro e; rw [e, h1] at e1; cases e1
      · rintro ⟨w', e1, e2⟩
        split at e1
        · cases e1; exact absurd e2 hk
        · exact ⟨w', e1, e2⟩
  · rw [hg] at hy
    split at hy
    · cases hy; exact h5
    · exact h.tk y w' hy
theorem gW_apply {s : TS} (hn : (s.works.map (·.1)).Nodup) {x : Txn} {w : Work} {yes : Bool} (k : K3) : gW (applyW s x yes w) k = if k = x.k then none else gW s k := by
  unfold gW applyW
  rw [mget_mdel x.k k hn]
  split <;> rfl
theorem Inv.apply {n : Nat} {s : TS} {x : Txn} {w : Work} {yes : Bool} (h : Inv n s) (hg0 : gW s x.k = some w) : Inv (n + 1) (applyW s x yes w) := by
  obtain ⟨⟨hw, hnd⟩, hx⟩ := h.ww x.k w hg0
  have hg := fun k => gW_apply (s := s) h.wd (x := x) (w := w) (yes := yes) k
  have hl := fun k => unlockAll_get (k := k) (ks := w.ks) h.ld
  have hdr := fun k => dropAll_get (r := w.Robot) (k := k) (ks := w.Drop) h.hd
  have htk := fun k => takeAll_get (r := w.Robot) (k := k) (ks := w.Take) (l := dropAll w.Robot w.Drop s.held) (hdr k).2.1
  have hheld : ∀ k, mget k (applyW s x yes w).held = some w.Robot ∧ k ∈ w.Take ∨ mget k (applyW s x yes w).held = none ∨ mget k (applyW s x yes w).held = mget k s.held := fun k => by
    cases yes with
    | false => exact .inr (.inr rfl)
    | true =>
      show mget k (takeAll w.Robot w.Take (dropAll w.Robot w.Drop s.held)) = some w.Robot ∧ _ ∨ mget k (takeAll w.Robot w.Take (dropAll w.Robot w.Drop s.held)) = none ∨ mget k (takeAll w.Robot w.Take (dropAll w.Robot w.Drop s.held)) = _
      rw [(htk k).1, (hdr k).1]
      by_cases h1 : k ∈ w.Take
      · exact .inl ⟨by rw [if_pos h1], h1⟩
      · rw [if_neg h1]
        by_cases h2 : k ∈ w.Drop ∧ mget k s.held = some w.Robot
        · exact .inr (.inl (by rw [if_pos h2]))
        · exact .inr (.inr (by rw [if_neg h2]))
  refine ⟨?_, (hl ⟨#[]⟩).2, mdel_nodup h.wd, fun k r hk => ?_, ?_, ?_, fun y w' hy => ?_, fun k y => ?_, fun y w' hy k hk => ?_⟩
  · cases yes with
    | false => exact h.hd
    | true => exact (htk ⟨#[]⟩).2.1
  · rcases hheld k with ⟨h1, h2⟩ | h1 | h1
    · rw [h1] at hk; cases hk
      exact ⟨hw.size k (by simp [Work.ks, h2]), hw.rob⟩
    · rw [h1] at hk; cases hk
    · rw [h1] at hk; exact h.hk k r hk
  · have h1 := h.hn
    cases yes with
    | false => show s.held.length ≤ _; omega
    | true =>
      show (takeAll w.Robot w.Take (dropAll w.Robot w.Drop s.held)).length ≤ _
      have h2 := (htk ⟨#[]⟩).2.2
      have h3 := (hdr ⟨#[]⟩).2.2
      have h4 := hw.take
      omega
  · show (mdel x.k s.works).length ≤ _
    have := mdel_len (m := s.works) (k := x.k)
    have := h.wn
    omega
  · rw [hg] at hy
    split at hy
    · cases hy
    · exact h.ww y w' hy
  · show mget k (unlockAll w.ks s.locked) = some y ↔ _
    rw [(hl k).1, hg]
    by_cases hk : k ∈ w.ks
    · rw [if_pos hk]
      constructor
      · intro e; cases e
      · rintro ⟨w', e1, e2⟩
        split at e1
        · cases e1
        · next e =>
          have a1 := (h.lk k y).2 ⟨w', e1, e2⟩
          have a2 := (h.lk k x).2 ⟨w, hg0, hk⟩
          rw [a1] at a2
          cases a2
          exact absurd rfl e
    · rw [if_neg hk, h.lk k y]
      constructor
      · rintro ⟨w', e1, e2⟩
        refine ⟨w', ?_, e2⟩
        rw [if_neg, e1]
        intro e; rw [e, hg0] at e1; cases e1; exact hk e2
      · rintro ⟨w', e1, e2⟩
        split at e1
        · cases e1
        · exact ⟨w', e1, e2⟩
  · rw [hg] at hy
    split at hy
    · cases hy
    · next e =>
      rcases hheld k with ⟨h1, h2⟩ | h1 | h1
      · have a1 := (h.lk k (toTx y)).2 ⟨w', by rw [k_toTx]; exact hy, by simp [Work.ks, hk]⟩
        have a2 := (h.lk k x).2 ⟨w, hg0, by simp [Work.ks, h2]⟩
        rw [a1] at a2
        cases a2
        exact absurd (k_toTx y).symm e
      · exact h1
      · rw [h1]; exact h.tk y w' hy k hk
theorem Inv.expire {n : Nat} {s : TS} {now : Int} (h : Inv n s) : Inv n (expireT s now) ∧ ∀ k, mget k (expireT s now).held = if goneK now k = true then none else mget k s.held := by
  have hl := fun k => letGo_get (now := now) (k := k) (ks := sortT (s.held.map (·.1))) h.hd
  have hm : ∀ k, mget k (expireT s now).held = if goneK now k = true then none else mget k s.held := fun k => by
    show mget k (letGo now (sortT (s.held.map (·.1))) s.held) = _
    rw [(hl k).1]
    by_cases hg : goneK now k = true
    · rw [if_pos hg]
      split
      · rfl
      · next e =>
        cases hk : mget k s.held with
        | none => rfl
        | some v => exact absurd ⟨mem_sortT.2 (mget_key.2 ⟨v, hk⟩), hg⟩ e
    · rw [if_neg hg, if_neg fun h => hg h.2]
  refine ⟨⟨(hl ⟨#[]⟩).2.1, h.ld, h.wd, fun k r hk => ?_, Nat.le_trans (hl ⟨#[]⟩).2.2 h.hn, h.wn, h.ww, h.lk, fun y w hy k hk => ?_⟩, hm⟩
  · rw [hm] at hk
    split at hk
    · cases hk
    · exact h.hk k r hk
  · rw [hm]
    split
    · rfl
    · exact h.tk y w hy k hk
end Go.Proofs.YtkhbfjkioehgfaaGreatDoor
