/- What a coordinator keeps to is kept. No program in sight. -/
import Derived.Test.YtpphdbnifbjfmaaGreatDoorJLS
set_option linter.unusedVariables false
set_option linter.unusedSimpArgs false
namespace Go.Proofs.YtpphdbnifbjfmaaGreatDoor
open Go Go.Sx Go.Proofs
structure OkW (w : Work) : Prop where
  take : w.Take.length ≤ 40
  drop : w.Drop.length ≤ 40
  rob : fits w.Robot
  size : ∀ k ∈ w.ks, k.size ≤ cap47
def okX (x : K3) : Prop := fits x.1 ∧ fits x.2.1 ∧ fits x.2.2
structure Inv (n : Nat) (s : TS) : Prop where
  hd : (s.held.map (·.1)).Nodup
  ld : (s.locked.map (·.1)).Nodup
  wd : (s.works.map (·.1)).Nodup
  hk : ∀ k r, mget k s.held = some r → k.size ≤ cap47 ∧ fits r
  hn : s.held.length ≤ 40 * n
  wn : s.works.length ≤ n
  ww : ∀ x w, gW s x = some w → (OkW w ∧ w.ks.Nodup) ∧ okX x
  lk : ∀ k x, mget k s.locked = some x ↔ ∃ w, gW s x.k = some w ∧ k ∈ w.ks
  tk : ∀ x w, gW s x = some w → ∀ k ∈ w.Take, mget k s.held = none
theorem Inv.more {n n' : Nat} {s : TS} (h : Inv n s) (hn : n ≤ n') : Inv n' s := { h with hn := by have := h.hn; omega, wn := by have := h.wn; omega }
theorem Inv.ok {n : Nat} {s : TS} (h : Inv n s) (hn : n ≤ 1000) : TsOk s := by
  refine ⟨fun q hq => (h.hk q.1 q.2 (mget_of_mem h.hd hq)).1, fun q hq => (h.hk q.1 q.2 (mget_of_mem h.hd hq)).2, by have := h.hn; omega, fun q hq => ?_, by have := h.wn; omega⟩
  exact (h.ww q.1 q.2.2 (by unfold gW; rw [mget_of_mem h.wd (k := q.1) (v := q.2) hq]; rfl)).2
theorem inv0 : Inv 0 ⟨[], [], []⟩ := ⟨by simp, by simp, by simp, fun k r h => (by cases h), by simp, by simp, fun x w h => (by cases h), fun k x => ⟨fun h => (by cases h), fun ⟨w, h, _⟩ => (by cases h)⟩, fun x w h => (by cases h)⟩
theorem lockAll_get {x : Txn} {k : ByteArray} : ∀ {ks : List ByteArray} {l : List (ByteArray × Txn)}, (l.map (·.1)).Nodup → mget k (lockAll x ks l) = (if k ∈ ks then some x else mget k l) ∧ ((lockAll x ks l).map (·.1)).Nodup
  | [], l, hn => ⟨by simp [lockAll], hn⟩
  | a :: ks, l, hn => by
    unfold lockAll
    rw [List.foldl_cons]
    obtain ⟨h1, h2⟩ := lockAll_get (x := x) (k := k) (ks := ks) (l := mset a x l) (mset_nodup hn)
    unfold lockAll at h1 h2
    refine ⟨?_, h2⟩
    rw [h1, mget_mset]
    by_cases e : k ∈ ks
    · simp [e]
    · by_cases e2 : k = a <;> simp [e, e2]
theorem unlockAll_get {k : ByteArray} : ∀ {ks : List ByteArray} {l : List (ByteArray × Txn)}, (l.map (·.1)).Nodup → mget k (unlockAll ks l) = (if k ∈ ks then none else mget k l) ∧ ((unlockAll ks l).map (·.1)).Nodup
  | [], l, hn => ⟨by simp [unlockAll], hn⟩
  | a :: ks, l, hn => by
    unfold unlockAll
    rw [List.foldl_cons]
    obtain ⟨h1, h2⟩ := unlockAll_get (k := k) (ks := ks) (l := mdel a l) (mdel_nodup hn)
    unfold unlockAll at h1 h2
    refine ⟨?_, h2⟩
    rw [h1, mget_mdel a k hn]
    by_cases e : k ∈ ks
    · simp [e]
    · by_cases e2 : k = a <;> simp [e, e2]
theorem takeAll_get {r : Int} {k : ByteArray} : ∀ {ks : List ByteArray} {l : List (ByteArray × Int)}, (l.map (·.1)).Nodup → mget k (takeAll r ks l) = (if k ∈ ks then some r else mget k l) ∧ ((takeAll r ks l).map (·.1)).Nodup ∧ (takeAll r ks l).length ≤ l.length + ks.length
  | [], l, hn => ⟨by simp [takeAll], hn, by simp [takeAll]⟩
  | a :: ks, l, hn => by
    unfold takeAll
    rw [List.foldl_cons]
    obtain ⟨h1, h2, h3⟩ := takeAll_get (r := r) (k := k) (ks := ks) (l := mset a r l) (mset_nodup hn)
    unfold takeAll at h1 h2 h3
    refine ⟨?_, h2, ?_⟩
    · rw [h1, mget_mset]
      by_cases e : k ∈ ks
      · simp [e]
      · by_cases e2 : k = a <;> simp [e, e2]
    · have h4 : (mset a r l).length ≤ l.length + 1 := by rw [mset_len]; split <;> omega
      simp only [List.length_cons]; omega
theorem mdel_len {κ ν : Type} [DecidableEq κ] {m : List (κ × ν)} {k : κ} : (mdel k m).length ≤ m.length := (mdel_sub k m).length_le
theorem dropAll_get {r : Int} {k : ByteArray} : ∀ {ks : List ByteArray} {l : List (ByteArray × Int)}, (l.map (·.1)).Nodup → mget k (dropAll r ks l) = (if k ∈ ks ∧ mget k l = some r then none else mget k l) ∧ ((dropAll r ks l).map (·.1)).Nodup ∧ (dropAll r ks l).length ≤ l.length
  | [], l, hn => ⟨by simp [dropAll], hn, by simp [dropAll]⟩
  | a :: ks, l, hn => by
    unfold dropAll
    rw [List.foldl_cons]
    have hc : ((mget a l).isSome = true ∧ (mget a l).getD 0 = r) ↔ mget a l = some r := by
      cases mget a l <;> simp
    by_cases hq : mget a l = some r
    · rw [if_pos (hc.2 hq)]
      obtain ⟨h1, h2, h3⟩ := dropAll_get (r := r) (k := k) (ks := ks) (l := mdel a l) (mdel_nodup hn)
      unfold dropAll at h1 h2 h3
      refine ⟨?_, h2, by have := mdel_len (m := l) (k := a); omega⟩
      rw [h1, mget_mdel a k hn]
      by_cases e2 : k = a
      · subst e2; simp [hq]
      · simp [e2]
    · rw [if_neg fun h => hq (hc.1 h)]
      obtain ⟨h1, h2, h3⟩ := dropAll_get (r := r) (k := k) (ks := ks) (l := l) hn
      unfold dropAll at h1 h2 h3
      refine ⟨?_, h2, h3⟩
      rw [h1]
      by_cases e2 : k = a
      · subst e2; simp [hq]
      · simp [e2]
theorem wayT_iff {s : TS} {w : Work} : ∀ {l : List ByteArray} {i : Nat}, wayT s w i l = true ↔ ∀ j (hj : j < l.length), mget l[j] s.locked = none ∧ (w.Take.length ≤ i + j ∨ mget l[j] s.held = none)
  | [], i => by simp [wayT]
  | k :: l, i => by
    have ih := wayT_iff (s := s) (w := w) (l := l) (i := i + 1)
    simp only [wayT, Bool.and_eq_true, ih, Bool.not_eq_true', Option.isSome_eq_false_iff, Option.isNone_iff_eq_none, Bool.or_eq_true, decide_eq_true_eq]
    constructor
    · rintro ⟨⟨h1, h2⟩, h3⟩ j hj
      cases j with
      | zero => exact ⟨h1, by simpa using h2⟩
      | succ j =>
        have := h3 j (by simpa using hj)
        rw [show i + 1 + j = i + (j + 1) by omega] at this
        simpa using this
    · intro h
      refine ⟨?_, fun j hj => ?_⟩
      · have := h 0 (by simp)
        simpa using this
      · have := h (j + 1) (by simpa using hj)
        rw [show i + 1 + j = i + (j + 1) by omega]
        simpa using this
theorem wayT_ks {s : TS} {w : Work} (h : wayT s w 0 w.ks = true) : (∀ k ∈ w.ks, mget k s.locked = none) ∧ ∀ k ∈ w.Take, mget k s.held = none := by
  rw [wayT_iff] at h
  refine ⟨fun k hk => ?_, fun k hk => ?_⟩
  · obtain ⟨j, hj, rfl⟩ := List.getElem_of_mem hk
    exact (h j hj).1
  · obtain ⟨j, hj, rfl⟩ := List.getElem_of_mem hk
    have hj2 : j < w.ks.length := by simp only [Work.ks, List.length_append]; omega
    have e : w.ks[j] = w.Take[j] := by simp only [Work.ks]; rw [List.getElem_append_left hj]
    have := (h j hj2).2
    rw [e] at this
    rcases this with h1 | h1
    · omega
    · exact h1
theorem prepE_zero {s : TS} {x : Txn} {w : Work} (h : prepE s x w = 0) : gW s x.k = none ∧ w.ks.Nodup ∧ wayT s w 0 w.ks = true := by
  unfold prepE at h
  split at h
  · cases h
  · next h1 =>
    split at h
    · cases h
    · next h2 =>
      split at h
      · next h3 =>
        refine ⟨?_, ?_, h3⟩
        · unfold gW
          cases hm : mget x.k s.works with
          | none => rfl
          | some v => rw [hm] at h1; exact absurd rfl h1
        · rw [dupT_iff] at h2; exact Classical.byContradiction h2
      · cases h
theorem gW_prep {s : TS} {x : Txn} {w : Work} {cs : List Value} (k : K3) : gW (prepT s x w cs) k = if k = x.k then some w else gW s k := by
  unfold gW prepT
  rw [mget_mset]
  split <;> rfl
theorem Inv.prep {n : Nat} {s : TS} {x : Txn} {w : Work} {cs : List Value} (h : Inv n s) (hw : OkW w) (hx : okX x.k) (he : prepE s x w = 0) : Inv (n + 1) (prepT s x w cs) := by
  obtain ⟨h1, h2, h3⟩ := prepE_zero he
  obtain ⟨h4, h5⟩ := wayT_ks h3
  have hl := fun k => lockAll_get (x := x) (k := k) (ks := w.ks) h.ld
  have hg := fun k => gW_prep (s := s) (x := x) (w := w) (cs := cs) k
  refine ⟨h.hd, (hl ⟨#[]⟩).2, mset_nodup h.wd, h.hk, by have := h.hn; show s.held.length ≤ _; omega, ?_, fun y w' hy => ?_, fun k y => ?_, fun y w' hy => ?_⟩
  · show (mset x.k (cs, w) s.works).length ≤ _
    rw [mset_len]
    have := h.wn
    split <;> omega
  · rw [hg] at hy
    split at hy
    · next e => cases hy; subst e; exact ⟨⟨hw, h2⟩, hx⟩
    · exact h.ww y w' hy
  · show mget k (lockAll x w.ks s.locked) = some y ↔ _
    rw [(hl k).1, hg]
    by_cases hk : k ∈ w.ks
    · rw [if_pos hk]
      constructor
      · intro e
        cases e
        exact ⟨w, by rw [if_pos rfl], hk⟩
      · rintro ⟨w', e1, e2⟩
        split at e1
        · next e => rw [k_inj e]
        · have := (h.lk k y).2 ⟨w', e1, e2⟩
          rw [h4 k hk] at this; cases this
    · rw [if_neg hk, h.lk k y]
      constructor
      · rintro ⟨w', e1, e2⟩
        refine ⟨w', ?_, e2⟩
        rw [if_neg, e1]
        intro e; rw [e, h1] at e1; cases e1
      · rintro ⟨w', e1, e2⟩
        split at e1
        · cases e1; exact absurd e2 hk
        · exact ⟨w', e1, e2⟩
  · rw [hg] at hy
    split at hy
    · cases hy; exact h5
    · exact h.tk y w' hy
theorem gW_apply {s : TS} (hn : (s.works.map (·.1)).Nodup) {x : Txn} {w : Work} {yes : Bool} (k : K3) : gW (applyW s x yes w) k = if k = x.k then none else gW s k := by
  unfold gW applyW
  rw [mget_mdel x.k k hn]
  split <;> rfl
theorem Inv.apply {n : Nat} {s : TS} {x : Txn} {w : Work} {yes : Bool} (h : Inv n s) (hg0 : gW s x.k = some w) : Inv (n + 1) (applyW s x yes w) := by
  obtain ⟨⟨hw, hnd⟩, hx⟩ := h.ww x.k w hg0
  have hg := fun k => gW_apply (s := s) h.wd (x := x) (w := w) (yes := yes) k
  have hl := fun k => unlockAll_get (k := k) (ks := w.ks) h.ld
  have hdr := fun k => dropAll_get (r := w.Robot) (k := k) (ks := w.Drop) h.hd
  have htk := fun k => takeAll_get (r := w.Robot) (k := k) (ks := w.Take) (l := dropAll w.Robot w.Drop s.held) (hdr k).2.1
  have hheld : ∀ k, mget k (applyW s x yes w).held = some w.Robot ∧ k ∈ w.Take ∨ mget k (applyW s x yes w).held = none ∨ mget k (applyW s x yes w).held = mget k s.held := fun k => by
    cases yes with
    | false => exact .inr (.inr rfl)
    | true =>
      show mget k (takeAll w.Robot w.Take (dropAll w.Robot w.Drop s.held)) = some w.Robot ∧ _ ∨ mget k (takeAll w.Robot w.Take (dropAll w.Robot w.Drop s.held)) = none ∨ mget k (takeAll w.Robot w.Take (dropAll w.Robot w.Drop s.held)) = _
      rw [(htk k).1, (hdr k).1]
      by_cases h1 : k ∈ w.Take
      · exact .inl ⟨by rw [if_pos h1], h1⟩
      · rw [if_neg h1]
        by_cases h2 : k ∈ w.Drop ∧ mget k s.held = some w.Robot
        · exact .inr (.inl (by rw [if_pos h2]))
        · exact .inr (.inr (by rw [if_neg h2]))
  refine ⟨?_, (hl ⟨#[]⟩).2, mdel_nodup h.wd, fun k r hk => ?_, ?_, ?_, fun y w' hy => ?_, fun k y => ?_, fun y w' hy k hk => ?_⟩
  · cases yes with
    | false => exact h.hd
    | true => exact (htk ⟨#[]⟩).2.1
  · rcases hheld k with ⟨h1, h2⟩ | h1 | h1
    · rw [h1] at hk; cases hk
      exact ⟨hw.size k (by simp [Work.ks, h2]), hw.rob⟩
    · rw [h1] at hk; cases hk
    · rw [h1] at hk; exact h.hk k r hk
  · have h1 := h.hn
    cases yes with
    | false => show s.held.length ≤ _; omega
    | true =>
      show (takeAll w.Robot w.Take (dropAll w.Robot w.Drop s.held)).length ≤ _
      have h2 := (htk ⟨#[]⟩).2.2
      have h3 := (hdr ⟨#[]⟩).2.2
      have h4 := hw.take
      omega
  · show (mdel x.k s.works).length ≤ _
    have := mdel_len (m := s.works) (k := x.k)
    have := h.wn
    omega
  · rw [hg] at hy
    split at hy
    · cases hy
    · exact h.ww y w' hy
  · show mget k (unlockAll w.ks s.locked) = some y ↔ _
    rw [(hl k).1, hg]
    by_cases hk : k ∈ w.ks
    · rw [if_pos hk]
      constructor
      · intro e; cases e
      · rintro ⟨w', e1, e2⟩
        split at e1
        · cases e1
        · next e =>
          have a1 := (h.lk k y).2 ⟨w', e1, e2⟩
          have a2 := (h.lk k x).2 ⟨w, hg0, hk⟩
          rw [a1] at a2
          cases a2
          exact absurd rfl e
    · rw [if_neg hk, h.lk k y]
      constructor
      · rintro ⟨w', e1, e2⟩
        refine ⟨w', ?_, e2⟩
        rw [if_neg, e1]
        intro e; rw [e, hg0] at e1; cases e1; exact hk e2
      · rintro ⟨w', e1, e2⟩
        split at e1
        · cases e1
        · exact ⟨w', e1, e2⟩
  · rw [hg] at hy
    split at hy
    · cases hy
    · next e =>
      rcases hheld k with ⟨h1, h2⟩ | h1 | h1
      · have a1 := (h.lk k (toTx y)).2 ⟨w', by rw [k_toTx]; exact hy, by simp [Work.ks, hk]⟩
        have a2 := (h.lk k x).2 ⟨w, hg0, by simp [Work.ks, h2]⟩
        rw [a1] at a2
        cases a2
        exact absurd (k_toTx y).symm e
      · exact h1
      · rw [h1]; exact h.tk y w' hy k hk
end Go.Proofs.YtpphdbnifbjfmaaGreatDoor
namespace Go.Proofs.YtpphdbnifbjfmaaGreatDoor
open Go Go.Sx Go.Proofs
end Go.Proofs.YtpphdbnifbjfmaaGreatDoor
namespace Go.Proofs.YtpphdbnifbjfmaaGreatDoor
open Go Go.Sx Go.Proofs
structure TX where
  op : Bool
  began : Int
  parts : List Int
  works : List (Int × CW)
  heard : List (Int × Int)
structure CS where
  node : Int
  life : Int
  count : Int
  ts : List (K3 × TX)
def TX.hd (t : TX) (p : Int) : Bool := (mget p t.heard).isSome
def TX.wk (t : TX) (p : Int) : Work := ((mget p t.works).getD zCW).2
def prepM (n : Int) (x : Txn) (p : Int) (w : Work) : Message := { zMessage with From := n, To := p, Kind := 1, Txn := x, Work := w }
def decM (n : Int) (x : Txn) (p : Int) (y : Bool) : Message := { zMessage with From := n, To := p, Kind := 3, Txn := x, Yes := y }
def saidM (n : Int) (x : Txn) (t : TX) (p : Int) : Message := if t.op = true then decM n x p true else prepM n x p (t.wk p)
def againL (n : Int) (x : Txn) (t : TX) : List Message := (t.parts.filter fun p => !t.hd p).map (saidM n x t)
def noL (n : Int) (x : Txn) (t : TX) : List Message := t.parts.map fun p => decM n x p false
def outcM (x : Txn) (y d : Bool) : CoordOutcome := ⟨x, y, d⟩
def recC (x : Txn) (ps : List Int) : Rec := ⟨4, x, zWork, false, ps⟩
def recE (x : Txn) : Rec := ⟨5, x, zWork, false, []⟩
def works0 (i : Int) : List Work → List (Int × Work)
  | [] => []
  | w :: l => if 0 < w.Take.length + w.Drop.length then (i, w) :: works0 (i + 1) l else works0 (i + 1) l
theorem works0_lt {i : Int} : ∀ {l : List Work} {j : Int}, i ≤ j → ∀ q ∈ works0 j l, i ≤ q.1 ∧ q.1 < j + l.length
  | [], j, _, q, h => by cases h
  | w :: l, j, hj, q, h => by
    unfold works0 at h
    simp only [List.length_cons]
    split at h
    · rcases List.mem_cons.1 h with rfl | h
      · simp only; omega
      · have := works0_lt (i := i) (l := l) (j := j + 1) (by omega) q h; omega
    · have := works0_lt (i := i) (l := l) (j := j + 1) (by omega) q h; omega
theorem works0_rise : ∀ {l : List Work} {j : Int}, ((works0 j l).map (·.1)).Pairwise (· < ·)
  | [], j => by simp [works0]
  | w :: l, j => by
    unfold works0
    split
    · rw [List.map_cons, List.pairwise_cons]
      refine ⟨fun a ha => ?_, works0_rise⟩
      obtain ⟨q, hq, rfl⟩ := List.mem_map.1 ha
      have := works0_lt (i := j + 1) (Int.le_refl _) q hq
      omega
    · exact works0_rise
def beganT (now : Int) (ws : List (Int × CW)) : TX := ⟨false, now, ws.map (·.1), ws, []⟩
def CS.put (s : CS) (k : K3) (t : TX) : CS := ⟨s.node, s.life, s.count, mset k t s.ts⟩
def CS.cut (s : CS) (k : K3) : CS := ⟨s.node, s.life, s.count, mdel k s.ts⟩
def newX (s : CS) : Txn := ⟨s.node, s.life, s.count + 1⟩
def beginS (s : CS) (now : Int) (ws : List (Int × CW)) : CS := if ws = [] then s else ⟨s.node, s.life, s.count + 1, mset (newX s).k (beganT now ws) s.ts⟩
def forC (s : CS) (m : Message) : Prop := m.To = s.node ∧ m.Txn.Node = s.node
instance {s : CS} {m : Message} : Decidable (forC s m) := by unfold forC; infer_instance
def zTX : TX := ⟨false, 0, [], [], []⟩
def CS.isT (s : CS) (x : Txn) : Prop := (mget x.k s.ts).isSome = true
instance {s : CS} {x : Txn} : Decidable (s.isT x) := by unfold CS.isT; infer_instance
def CS.tx (s : CS) (x : Txn) : TX := (mget x.k s.ts).getD zTX
def CS.isPart (s : CS) (m : Message) : Prop := s.isT m.Txn ∧ m.From ∈ (s.tx m.Txn).parts
instance {s : CS} {m : Message} : Decidable (s.isPart m) := by unfold CS.isPart; infer_instance
def hear1 (t : TX) (p : Int) : TX := { t with heard := mset p 1 t.heard }
def allHeard (t : TX) : Prop := t.parts.length ≤ t.heard.length
instance {t : TX} : Decidable (allHeard t) := by unfold allHeard; infer_instance
def openT (t : TX) : TX := ⟨true, t.began, t.parts, [], []⟩
structure CAns where
  s : CS
  out : List Message
  rc : List Rec
  oc : List CoordOutcome
def cHear (s : CS) (m : Message) : CAns :=
  if ¬ forC s m then ⟨s, [], [], []⟩ else
  if m.Kind = 5 ∧ (¬ s.isT m.Txn ∨ (s.tx m.Txn).op = true) then ⟨s, [decM s.node m.Txn m.From (decide (s.isT m.Txn))], [], []⟩ else
  if m.Kind = 2 ∧ s.isPart m ∧ (s.tx m.Txn).op = false ∧ m.Yes = false then ⟨s.cut m.Txn.k, noL s.node m.Txn (s.tx m.Txn), [], [outcM m.Txn false false]⟩ else
  if m.Kind = 2 ∧ s.isPart m ∧ (s.tx m.Txn).op = false then
    (if ¬ allHeard (hear1 (s.tx m.Txn) m.From) then ⟨s.put m.Txn.k (hear1 (s.tx m.Txn) m.From), [], [], []⟩
     else ⟨s.put m.Txn.k (openT (s.tx m.Txn)), againL s.node m.Txn (openT (s.tx m.Txn)), [recC m.Txn (s.tx m.Txn).parts], [outcM m.Txn true false]⟩) else
  if m.Kind = 4 ∧ s.isPart m ∧ (s.tx m.Txn).op = true then
    (if ¬ allHeard (hear1 (s.tx m.Txn) m.From) then ⟨s.put m.Txn.k (hear1 (s.tx m.Txn) m.From), [], [], []⟩
     else ⟨s.cut m.Txn.k, [], [recE m.Txn], [outcM m.Txn true true]⟩) else
  ⟨s, [], [], []⟩
def lateT (began now : Int) : Prop := began ≤ now ∧ 8 ≤ now - began
instance {a b : Int} : Decidable (lateT a b) := by unfold lateT; infer_instance
def gaveUp (t : TX) (now : Int) : Prop := t.op = false ∧ lateT t.began now
instance {t : TX} {now : Int} : Decidable (gaveUp t now) := by unfold gaveUp; infer_instance
def allC (s : CS) : List K3 := sort3 (s.ts.map (·.1))
def stepOut1 (s : CS) (now : Int) (k : K3) : List Message :=
  if gaveUp ((mget k s.ts).getD zTX) now then noL s.node (toTx k) ((mget k s.ts).getD zTX) else againL s.node (toTx k) ((mget k s.ts).getD zTX)
def stepOut (s : CS) (now : Int) : List Message := (allC s).flatMap (stepOut1 s now)
def stepOc (s : CS) (now : Int) : List CoordOutcome := ((allC s).filter fun k => decide (gaveUp ((mget k s.ts).getD zTX) now)).map fun k => outcM (toTx k) false false
def stepS (s : CS) (now : Int) : CS := ⟨s.node, s.life, s.count, s.ts.filter fun q => !decide (gaveUp q.2 now)⟩
def votingL (s : CS) : List Txn := ((allC s).filter fun k => !((mget k s.ts).getD zTX).op).map toTx
def openL (s : CS) : List Rec := ((allC s).filter fun k => ((mget k s.ts).getD zTX).op).map fun k => recC (toTx k) ((mget k s.ts).getD zTX).parts
structure TInv (t : TX) : Prop where
  ne : t.parts ≠ []
  rise : t.parts.Pairwise (· < ·)
  nn : ∀ p ∈ t.parts, 0 ≤ p ∧ fits p
  hn : (t.heard.map (·.1)).Nodup
  hp : ∀ q ∈ t.heard, q.1 ∈ t.parts ∧ q.2 = 1
  hl : t.heard.length < t.parts.length
  wk : t.op = false → t.works.map (·.1) = t.parts
  bg : fits t.began
structure CInv (n : Nat) (s : CS) : Prop where
  nd : (s.ts.map (·.1)).Nodup
  ln : s.ts.length ≤ n
  ti : ∀ k t, mget k s.ts = some t → TInv t
  kn : ∀ k t, mget k s.ts = some t → k.1 = s.node ∧ fits k.2.1 ∧ fits k.2.2 ∧ k.2.1 ≤ s.life ∧ (k.2.1 = s.life → 1 ≤ k.2.2 ∧ k.2.2 ≤ s.count)
  c0 : 0 ≤ s.count ∧ s.count ≤ n
  fn : fits s.node
  fl : fits s.life
theorem CInv.more {n n' : Nat} {s : CS} (h : CInv n s) (hn : n ≤ n') : CInv n' s := { h with ln := Nat.le_trans h.ln hn, c0 := by have := h.c0; omega }
theorem cinv0 {node life : Int} (h : fits node) (h2 : fits life) : CInv 0 ⟨node, life, 0, []⟩ := ⟨by simp, by simp, fun k t h => (by cases h), fun k t h => (by cases h), by simp, h, h2⟩
theorem TInv.parts_nodup {t : TX} (h : TInv t) : t.parts.Nodup := by
  rw [List.nodup_iff_pairwise_ne]; exact h.rise.imp fun h e => by omega
theorem nodup_sub_len {α : Type} [DecidableEq α] : ∀ {a b : List α}, a.Nodup → (∀ x ∈ a, x ∈ b) → a.length ≤ b.length
  | [], b, _, _ => Nat.zero_le _
  | x :: a, b, hn, h => by
    rw [List.nodup_cons] at hn
    have hx := h x (List.mem_cons_self ..)
    have h1 := nodup_sub_len (a := a) (b := b.erase x) hn.2 fun y hy => (List.mem_erase_of_ne (fun e => hn.1 (by rw [← e]; exact hy))).2 (h y (List.mem_cons_of_mem _ hy))
    rw [List.length_erase_of_mem hx] at h1
    have h2 := List.length_pos_of_mem hx
    simp only [List.length_cons]
    omega
theorem all_heard {t : TX} {ps : List Int} {hs : List (Int × Int)} (hp : ps.Nodup) (hn : (hs.map (·.1)).Nodup) (hsub : ∀ q ∈ hs, q.1 ∈ ps) : ps.length ≤ hs.length ↔ ∀ p ∈ ps, (mget p hs).isSome = true := by
  constructor
  · intro hl p hm
    refine Classical.byContradiction fun hc => ?_
    have hno : mget p hs = none := by simpa using hc
    have hk := mget_none.1 hno
    have hsub2 : ∀ a ∈ p :: hs.map (·.1), a ∈ ps := fun a ha => by
      rcases List.mem_cons.1 ha with rfl | ha
      · exact hm
      · obtain ⟨q, hq, rfl⟩ := List.mem_map.1 ha; exact hsub q hq
    have hnd : (p :: hs.map (·.1)).Nodup := List.nodup_cons.2 ⟨hk, hn⟩
    have := nodup_sub_len hnd hsub2
    simp only [List.length_cons, List.length_map] at this
    omega
  · intro h
    have hsub2 : ∀ a ∈ ps, a ∈ hs.map (·.1) := fun a ha => by
      have h1 := h a ha
      cases hg : mget a hs with
      | none => rw [hg] at h1; cases h1
      | some v => exact List.mem_map.2 ⟨_, mget_mem hg, rfl⟩
    have := nodup_sub_len hp hsub2
    simpa using this
theorem CS.get_tx {s : CS} {x : Txn} (h : s.isT x) : mget x.k s.ts = some (s.tx x) := by
  unfold CS.isT at h; unfold CS.tx
  cases hg : mget x.k s.ts with
  | none => rw [hg] at h; cases h
  | some t => rfl
theorem CInv.tinv {n : Nat} {s : CS} (I : CInv n s) {x : Txn} (h : s.isT x) : TInv (s.tx x) := I.ti _ _ (CS.get_tx h)
theorem mset_len_in {κ ν : Type} [DecidableEq κ] {k : κ} {v : ν} {m : List (κ × ν)} (h : (mget k m).isSome = true) : (mset k v m).length = m.length := by
  rw [mset_len, if_pos]
  refine Classical.byContradiction fun hc => ?_
  rw [mget_none.2 hc] at h; cases h
theorem CInv.put {n : Nat} {s : CS} (I : CInv n s) {x : Txn} {t : TX} (h : s.isT x) (ht : TInv t) : CInv n (s.put x.k t) := by
  have hl : (mset x.k t s.ts).length = s.ts.length := mset_len_in h
  refine ⟨mset_nodup I.nd, ?_, fun k t' hk => ?_, fun k t' hk => ?_, I.c0, I.fn, I.fl⟩
  · show (mset x.k t s.ts).length ≤ n; rw [hl]; exact I.ln
  · have hk' : mget k (mset x.k t s.ts) = some t' := hk
    rw [mget_mset] at hk'
    split at hk'
    · cases hk'; exact ht
    · exact I.ti k t' hk'
  · have hk' : mget k (mset x.k t s.ts) = some t' := hk
    rw [mget_mset] at hk'
    split at hk'
    · next e => subst e; exact I.kn _ _ (CS.get_tx h)
    · exact I.kn k t' hk'
theorem mget_mdel_some {κ ν : Type} [DecidableEq κ] {m : List (κ × ν)} (hn : (m.map (·.1)).Nodup) {k k' : κ} {v : ν} (h : mget k' (mdel k m) = some v) : mget k' m = some v := by
  have h1 := (mget_iff (mdel_nodup hn)).1 h
  exact (mget_iff hn).2 ((mdel_sub k m).subset h1)
theorem CInv.cut {n : Nat} {s : CS} (I : CInv n s) {k : K3} : CInv n (s.cut k) :=
  ⟨mdel_nodup I.nd, Nat.le_trans mdel_len I.ln, fun k' t h => I.ti k' t (mget_mdel_some I.nd h), fun k' t h => I.kn k' t (mget_mdel_some I.nd h), I.c0, I.fn, I.fl⟩
theorem TInv.hear {t : TX} (h : TInv t) {p : Int} (hp : p ∈ t.parts) (hall : ¬ allHeard (hear1 t p)) : TInv (hear1 t p) := by
  refine ⟨h.ne, h.rise, h.nn, mset_nodup h.hn, fun q hq => ?_, by unfold allHeard at hall; omega, h.wk, h.bg⟩
  have h1 := mget_of_mem (mset_nodup h.hn) (show q ∈ mset p 1 t.heard from hq)
  rw [mget_mset] at h1
  split at h1
  · next e => rw [e]; exact ⟨hp, by simpa using h1.symm⟩
  · exact h.hp q (mget_mem h1)
theorem TInv.open {t : TX} (h : TInv t) : TInv (openT t) :=
  ⟨h.ne, h.rise, h.nn, by simp [openT], fun q hq => (by cases hq), by have := List.length_pos_iff.2 h.ne; simpa [openT] using this, fun e => (by cases e), h.bg⟩
theorem CInv.hear {n : Nat} {s : CS} (I : CInv n s) {m : Message} : CInv n (cHear s m).s := by
  unfold cHear
  split
  · exact I
  split
  · exact I
  split
  · exact I.cut
  split
  · next h =>
    split
    · next h2 => exact I.put h.2.1.1 ((I.tinv h.2.1.1).hear h.2.1.2 h2)
    · exact I.put h.2.1.1 (I.tinv h.2.1.1).open
  split
  · next h =>
    split
    · next h2 => exact I.put h.2.1.1 ((I.tinv h.2.1.1).hear h.2.1.2 h2)
    · exact I.cut
  · exact I
theorem mget_filterT {s : CS} {p : K3 × TX → Bool} (hn : (s.ts.map (·.1)).Nodup) {k : K3} {t : TX} : mget k (s.ts.filter p) = some t ↔ mget k s.ts = some t ∧ p (k, t) = true := by
  have h2 : ((s.ts.filter p).map (·.1)).Nodup := hn.sublist ((List.filter_sublist).map _)
  rw [mget_iff h2, mget_iff hn, List.mem_filter]
theorem CInv.step {n : Nat} {s : CS} (I : CInv n s) {now : Int} : CInv n (stepS s now) := by
  have h2 : ((s.ts.filter fun q => !decide (gaveUp q.2 now)).map (·.1)).Nodup := I.nd.sublist ((List.filter_sublist).map _)
  exact ⟨h2, Nat.le_trans (List.length_filter_le _ _) I.ln, fun k t h => I.ti k t ((mget_filterT I.nd).1 h).1, fun k t h => I.kn k t ((mget_filterT I.nd).1 h).1, I.c0, I.fn, I.fl⟩
theorem works0_map {l : List Work} {ws : List (Int × CW)} (hw : ws.map (fun q => (q.1, q.2.2)) = works0 0 l) : ws.map (·.1) = (works0 0 l).map (·.1) := by rw [← hw, List.map_map]; rfl
theorem TInv.began {l : List Work} {ws : List (Int × CW)} {now : Int} (hw : ws.map (fun q => (q.1, q.2.2)) = works0 0 l) (hl : l.length ≤ 100000) (hne : ws ≠ []) (hb : fits now) : TInv (beganT now ws) := by
  refine ⟨fun h => hne (List.map_eq_nil_iff.1 h), ?_, fun p hp => ?_, by simp [beganT], fun q hq => (by cases hq), ?_, fun _ => rfl, hb⟩
  · show (ws.map (·.1)).Pairwise (· < ·)
    rw [works0_map hw]; exact works0_rise
  · have hp' : p ∈ ws.map (·.1) := hp
    rw [works0_map hw] at hp'
    obtain ⟨q, hq, rfl⟩ := List.mem_map.1 hp'
    have := works0_lt (i := 0) (Int.le_refl _) q hq
    unfold fits; omega
  · show 0 < (ws.map (·.1)).length
    rw [List.length_map]; exact List.length_pos_iff.2 hne
theorem CInv.fresh {n : Nat} {s : CS} (I : CInv n s) : mget (newX s).k s.ts = none := by
  cases hg : mget (newX s).k s.ts with
  | none => rfl
  | some t =>
    have := (I.kn _ _ hg).2.2.2.2 rfl
    have h2 : (newX s).k.2.2 = s.count + 1 := rfl
    omega
theorem CInv.begin {n : Nat} {s : CS} (I : CInv n s) {l : List Work} {ws : List (Int × CW)} {now : Int} (hw : ws.map (fun q => (q.1, q.2.2)) = works0 0 l) (hl : l.length ≤ 100000) (hb : fits now) (hn : n ≤ 100000) : CInv (n + 1) (beginS s now ws) := by
  unfold beginS
  split
  · exact I.more (Nat.le_succ _)
  next hne =>
  have hc := I.c0
  refine ⟨mset_nodup I.nd, ?_, fun k t hk => ?_, fun k t hk => ?_, ?_, I.fn, I.fl⟩
  · show (mset _ _ s.ts).length ≤ n + 1
    rw [mset_len]; have := I.ln; split <;> omega
  · have hk' : mget k (mset (newX s).k (beganT now ws) s.ts) = some t := hk
    rw [mget_mset] at hk'
    split at hk'
    · cases hk'; exact TInv.began hw hl hne hb
    · exact I.ti k t hk'
  · have hk' : mget k (mset (newX s).k (beganT now ws) s.ts) = some t := hk
    rw [mget_mset] at hk'
    show k.1 = s.node ∧ fits k.2.1 ∧ fits k.2.2 ∧ k.2.1 ≤ s.life ∧ (k.2.1 = s.life → 1 ≤ k.2.2 ∧ k.2.2 ≤ s.count + 1)
    split at hk'
    · next e =>
      subst e
      refine ⟨rfl, I.fl, ?_, Int.le_refl _, fun _ => ?_⟩
      · show fits (s.count + 1); unfold fits; omega
      · show 1 ≤ s.count + 1 ∧ s.count + 1 ≤ s.count + 1; omega
    · obtain ⟨a, b, c, d, e⟩ := I.kn k t hk'
      exact ⟨a, b, c, d, fun h => by have := e h; omega⟩
  · show 0 ≤ s.count + 1 ∧ s.count + 1 ≤ ((n + 1 : Nat) : Int); omega
theorem works0_len : ∀ {l : List Work} {i : Int}, (works0 i l).length ≤ l.length
  | [], i => Nat.le_refl _
  | w :: l, i => by
    unfold works0
    have := works0_len (l := l) (i := i + 1)
    split <;> simp only [List.length_cons] <;> omega
theorem stepS_get {n : Nat} {s : CS} (I : CInv n s) {now : Int} {k : K3} {t : TX} : mget k (stepS s now).ts = some t ↔ mget k s.ts = some t ∧ ¬ gaveUp t now := by
  unfold stepS
  rw [show (⟨s.node, s.life, s.count, s.ts.filter fun q => !decide (gaveUp q.2 now)⟩ : CS).ts = s.ts.filter fun q => !decide (gaveUp q.2 now) from rfl, mget_filterT I.nd]
  simp
theorem mem_allC {s : CS} {k : K3} : k ∈ allC s ↔ (mget k s.ts).isSome = true := by
  unfold allC
  rw [mem_sort3, mget_key]
  constructor
  · rintro ⟨v, hv⟩; rw [hv]; rfl
  · intro h
    cases hg : mget k s.ts with
    | none => rw [hg] at h; cases h
    | some v => exact ⟨v, rfl⟩
end Go.Proofs.YtpphdbnifbjfmaaGreatDoor
