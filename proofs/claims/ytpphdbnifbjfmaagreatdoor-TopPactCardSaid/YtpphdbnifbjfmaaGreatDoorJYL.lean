/- A round where nothing crashes: what is under way is delivered; what waits is heard. No program in sight. -/
import Derived.Test.YtpphdbnifbjfmaaGreatDoorJXL
set_option linter.unusedVariables false
set_option linter.unusedSimpArgs false
namespace Go.Proofs.YtpphdbnifbjfmaaGreatDoor
open Go Go.Sx Go.Proofs
def Quiet (w : PW) : Prop := ∀ x t, (absW w).st x = some t → t.op = true
def PU (a : AS) (x : Txn) (p : Int) : Prop := ∃ t, a.st x = some t ∧ t.op = true ∧ p ∈ t.ps ∧ t.hd p = false
def PV (a : AS) (x : Txn) (p : Int) : Prop := a.wk p x ≠ none
def pot (m : Message) : Nat := if m.Kind = 1 then 2 else if m.Kind = 3 then 2 else if m.Kind = 5 then 3 else 1
structure Dlv (w w' : PW) (m : Message) (out : List Message) : Prop where
  q : Quiet w'
  len : out = [] ∨ ∃ r, out = [r] ∧ pot r < pot m ∧ r.Kind ≠ 1
  u : m.Kind ≠ 1 → ∀ x p, PU (absW w') x p → PU (absW w) x p
  v : m.Kind ≠ 1 → ∀ x p, PV (absW w') x p → PV (absW w) x p
  k3 : m.Kind = 3 → ¬ PV (absW w') m.Txn m.To ∧ ∃ r, out = [r] ∧ r.Kind = 4 ∧ r.From = m.To ∧ r.Txn = m.Txn
  k4 : m.Kind = 4 → ¬ PU (absW w') m.Txn m.From
  k5 : m.Kind = 5 → ∃ r, out = [r] ∧ r.Kind = 3 ∧ r.To = m.From ∧ r.Txn = m.Txn
inductive CQ (s : CS) (m : Message) : CAns → Prop
  | ask (k : m.Kind = 5) : CQ s m ⟨s, [decM s.node m.Txn m.From (decide (s.isT m.Txn))], [], []⟩
  | more (k : m.Kind = 4) (hp : s.isPart m) (l : List Rec) (o : List CoordOutcome) : CQ s m ⟨s.put m.Txn.k (hear1 (s.tx m.Txn) m.From), [], l, o⟩
  | last (k : m.Kind = 4) (hp : s.isPart m) (l : List Rec) (o : List CoordOutcome) : CQ s m ⟨s.cut m.Txn.k, [], l, o⟩
  | none (k : m.Kind ≠ 5) (hp : m.Kind = 4 → ¬ s.isPart m) : CQ s m ⟨s, [], [], []⟩
theorem cHear_quiet {s : CS} {m : Message} (hq : ∀ k t, mget k s.ts = some t → t.op = true) (hf : forC s m) : CQ s m (cHear s m) := by
  have hop : s.isT m.Txn → (s.tx m.Txn).op = true := fun h => hq _ _ (CS.get_tx h)
  unfold cHear
  rw [if_neg (fun h => h hf)]
  by_cases h5 : m.Kind = 5
  · rw [if_pos ⟨h5, by by_cases h : s.isT m.Txn; exact .inr (hop h); exact .inl h⟩]
    exact .ask h5
  · rw [if_neg (fun h => h5 h.1)]
    have h2 : ¬ (m.Kind = 2 ∧ s.isPart m ∧ (s.tx m.Txn).op = false) := fun ⟨_, h, h'⟩ => by rw [hop h.1] at h'; cases h'
    rw [if_neg (fun h => h2 ⟨h.1, h.2.1, h.2.2.1⟩), if_neg h2]
    by_cases h4 : m.Kind = 4 ∧ s.isPart m
    · rw [if_pos ⟨h4.1, h4.2, hop h4.2.1⟩]
      split
      · exact .more h4.1 h4.2 _ _
      · exact .last h4.1 h4.2 _ _
    · rw [if_neg (fun h => h4 ⟨h.1, h.2.1⟩)]
      exact .none h5 fun h hp => h4 ⟨h, hp⟩
theorem WInv.dlv {n K : Nat} {B : List BT} {w w' : PW} {m : Message} {out : List Message} (I : WInv n K B w) (Q : Quiet w) (J : JM B (absW w) m) (h : PHear w m w' out) : Dlv w w' m out := by
  cases h with
  | part k i hm h cs =>
    have hst : ∀ x, (absW { setN w i ⟨hearS w.ns[i].ps m cs, w.ns[i].cs⟩ with log := w.log ++ noteL m.To (hearRec w.ns[i].ps m) }).st x = (absW w).st x := fun x => by
      refine (abs_st (nt := w.net) h x).trans ?_
      split
      · next e => exact (st_at h e).symm
      · rfl
    have hwk : ∀ p x, (absW { setN w i ⟨hearS w.ns[i].ps m cs, w.ns[i].cs⟩ with log := w.log ++ noteL m.To (hearRec w.ns[i].ps m) }).wk p x = if p = i then gW (hearS w.ns[i].ps m cs).t x.k else (absW w).wk p x := fun p x => abs_wk (nt := w.net) h p x
    have hu : ∀ x p, PU (absW { setN w i ⟨hearS w.ns[i].ps m cs, w.ns[i].cs⟩ with log := w.log ++ noteL m.To (hearRec w.ns[i].ps m) }) x p → PU (absW w) x p := fun x p ⟨t, ht, r⟩ => ⟨t, (hst x).symm.trans ht, r⟩
    have hq : Quiet { setN w i ⟨hearS w.ns[i].ps m cs, w.ns[i].cs⟩ with log := w.log ++ noteL m.To (hearRec w.ns[i].ps m) } := fun x t ht => Q x t ((hst x).symm.trans ht)
    have hsh := (I.N.sh i h).1
    rcases k with k1 | k3
    · refine ⟨hq, ?_, fun h => absurd k1 h, fun h => absurd k1 h, fun h => by omega, fun h => by omega, fun h => by omega⟩
      unfold hearOut
      by_cases hf : forMe w.ns[i].ps m
      · rw [if_neg (fun h => h hf), if_pos k1]
        split
        · exact .inl rfl
        · exact .inr ⟨_, rfl, by unfold pot; rw [if_pos k1]; show (if (2 : Int) = 1 then 2 else if (2 : Int) = 3 then 2 else if (2 : Int) = 5 then 3 else 1) < 2; decide, by show (2 : Int) ≠ 1; decide⟩
      · rw [if_pos hf]; exact .inl rfl
    · have hne : m.Kind ≠ 1 := by omega
      have hf : forMe w.ns[i].ps m := ⟨by rw [hsh]; exact hm, (J.k3 k3).1⟩
      have ho : hearOut w.ns[i].ps m = [ackM w.ns[i].ps m] := by unfold hearOut; rw [if_neg (fun h => h hf), if_neg hne, if_pos k3]
      have hS : ∀ k, gW (hearS w.ns[i].ps m cs).t k = if k = m.Txn.k then none else gW w.ns[i].ps.t k := fun k => by
        unfold hearS
        rw [if_neg (fun h => h hf), if_neg hne, if_pos k3]
        split
        · exact applyT_P (I.N.P i h) k
        · next hp =>
          split
          · next e =>
            subst e
            cases hg : gW w.ns[i].ps.t m.Txn.k with
            | none => rfl
            | some v => exact absurd (isP_iff.2 ⟨v, hg⟩) hp
          · rfl
      refine ⟨hq, .inr ⟨_, ho, ?_, by show (4 : Int) ≠ 1; decide⟩, fun _ => hu, fun _ x p hv => ?_, fun _ => ⟨fun hv => ?_, _, ho, rfl, ?_, rfl⟩, fun h => by omega, fun h => by omega⟩
      · unfold pot; rw [if_neg hne, if_pos k3]; show (if (4 : Int) = 1 then 2 else if (4 : Int) = 3 then 2 else if (4 : Int) = 5 then 3 else 1) < 2; decide
      · unfold PV at hv ⊢
        rw [hwk] at hv
        split at hv
        · next e =>
          rw [hS] at hv
          split at hv
          · exact absurd rfl hv
          · rw [e, wk_at h]; exact hv
        · exact hv
      · unfold PV at hv
        rw [hwk, if_pos hm, hS, if_pos rfl] at hv
        exact hv rfl
      · show w.ns[i].ps.sh = m.To
        rw [hsh, hm]
  | coord k i hm h =>
    have k1 : m.Kind ≠ 1 := fun e => k (.inl e)
    have k3 : m.Kind ≠ 3 := fun e => k (.inr e)
    have hkp : m.Kind = 2 ∨ m.Kind = 4 ∨ m.Kind = 5 := by have := J.kd; omega
    have hx : m.Txn.Node = i := by rw [← (J.kp hkp).1]; exact hm
    have hnode := (I.N.sh i h).2
    have hf : forC w.ns[i].cs m := ⟨by rw [hnode]; exact hm, by rw [hnode]; exact hx⟩
    have hqi : ∀ k t, mget k w.ns[i].cs.ts = some t → t.op = true := fun k t hg => by
      have hn : (toTx k).Node = i := by rw [← hnode]; exact ((I.N.C i h).kn k t hg).1
      exact Q (toTx k) (viewT t) (by rw [st_at h hn, k_toTx, hg]; rfl)
    have C := cHear_quiet hqi hf
    have IC := I.N.C i h
    generalize cHear w.ns[i].cs m = A at C ⊢
    have hst : ∀ x, (absW { setN w i ⟨w.ns[i].ps, A.s⟩ with log := w.log ++ noteL m.To A.rc }).st x = if x.Node = i then (mget x.k A.s.ts).map viewT else (absW w).st x := fun x => abs_st (nt := w.net) h x
    have hwk : ∀ p x, (absW { setN w i ⟨w.ns[i].ps, A.s⟩ with log := w.log ++ noteL m.To A.rc }).wk p x = (absW w).wk p x := fun p x => by
      refine (abs_wk (nt := w.net) h p x).trans ?_
      split
      · next e => rw [e, wk_at h]
      · rfl
    have hv : ∀ x p, PV (absW { setN w i ⟨w.ns[i].ps, A.s⟩ with log := w.log ++ noteL m.To A.rc }) x p → PV (absW w) x p := fun x p hv => by
      unfold PV at hv ⊢; rwa [hwk] at hv
    have key : ∀ {s' : CS}, (∀ y : Txn, ∀ t', y.Node = i → mget y.k s'.ts = some t' → ∃ t, mget y.k w.ns[i].cs.ts = some t ∧ t'.op = t.op ∧ t'.parts = t.parts ∧ (∀ p, t.hd p = true → t'.hd p = true)) → A.s = s' →
        Quiet { setN w i ⟨w.ns[i].ps, A.s⟩ with log := w.log ++ noteL m.To A.rc } ∧ ∀ x p, PU (absW { setN w i ⟨w.ns[i].ps, A.s⟩ with log := w.log ++ noteL m.To A.rc }) x p → PU (absW w) x p := fun {s'} hs e => by
      refine ⟨fun x t ht => ?_, fun x p ⟨t, ht, ho, hp, hh⟩ => ?_⟩
      · rw [hst] at ht
        split at ht
        · next hn =>
          obtain ⟨t', ht', rfl⟩ := Option.map_eq_some_iff.1 ht
          rw [e] at ht'
          obtain ⟨t0, h0, h1, _⟩ := hs x t' hn ht'
          show t'.op = true
          rw [h1]; exact hqi _ _ h0
        · exact Q x t ht
      · rw [hst] at ht
        split at ht
        · next hn =>
          obtain ⟨t', ht', rfl⟩ := Option.map_eq_some_iff.1 ht
          rw [e] at ht'
          obtain ⟨t0, h0, h1, h2, h3⟩ := hs x t' hn ht'
          refine ⟨viewT t0, by rw [st_at h hn, h0]; rfl, hqi _ _ h0, by show p ∈ t0.parts; rw [← h2]; exact hp, ?_⟩
          show t0.hd p = false
          cases hb : t0.hd p with
          | false => rfl
          | true => have h9 : t'.hd p = false := hh; rw [h3 p hb] at h9; cases h9
        · exact ⟨t, ht, ho, hp, hh⟩
    have hpart : w.ns[i].cs.isPart m → mget m.Txn.k w.ns[i].cs.ts = some (w.ns[i].cs.tx m.Txn) := fun hp => CS.get_tx hp.1
    cases C with
    | ask k5 =>
      obtain ⟨a, b⟩ := key (s' := w.ns[i].cs) (fun y t' _ hg => ⟨t', hg, rfl, rfl, fun _ h => h⟩) rfl
      refine ⟨a, .inr ⟨_, rfl, ?_, by show (3 : Int) ≠ 1; decide⟩, fun _ => b, fun _ => hv, fun h => absurd h k3, fun h => by omega, fun _ => ⟨_, rfl, rfl, rfl, rfl⟩⟩
      unfold pot
      rw [if_neg k1, if_neg k3, if_pos k5]
      show (if (3 : Int) = 1 then 2 else if (3 : Int) = 3 then 2 else if (3 : Int) = 5 then 3 else 1) < 3
      decide
    | none k5 hp =>
      obtain ⟨a, b⟩ := key (s' := w.ns[i].cs) (fun y t' _ hg => ⟨t', hg, rfl, rfl, fun _ h => h⟩) rfl
      refine ⟨a, .inl rfl, fun _ => b, fun _ => hv, fun h => absurd h k3, fun k4 hU => ?_, fun h => absurd h k5⟩
      obtain ⟨t, ht, ho, hpp, hh⟩ := b _ _ hU
      rw [st_at h hx] at ht
      obtain ⟨t', ht', rfl⟩ := Option.map_eq_some_iff.1 ht
      exact hp k4 ⟨by unfold CS.isT; rw [ht']; rfl, by unfold CS.tx; rw [ht']; exact hpp⟩
    | more k4 hp l o =>
      have hg := hpart hp
      have hs : ∀ y : Txn, ∀ t', mget y.k (w.ns[i].cs.put m.Txn.k (hear1 (w.ns[i].cs.tx m.Txn) m.From)).ts = some t' → (y = m.Txn ∧ t' = hear1 (w.ns[i].cs.tx m.Txn) m.From) ∨ mget y.k w.ns[i].cs.ts = some t' := fun y t' hg' => by
        have hg2 : mget y.k (mset m.Txn.k (hear1 (w.ns[i].cs.tx m.Txn) m.From) w.ns[i].cs.ts) = some t' := hg'
        rw [mget_mset] at hg2
        split at hg2
        · next e => cases hg2; exact .inl ⟨k_inj e, rfl⟩
        · exact .inr hg2
      have hhd : ∀ p, (w.ns[i].cs.tx m.Txn).hd p = true → (hear1 (w.ns[i].cs.tx m.Txn) m.From).hd p = true := fun p hp => by
        unfold TX.hd hear1 at *
        simp only
        rw [mget_mset]
        split
        · rfl
        · exact hp
      obtain ⟨a, b⟩ := key (s' := w.ns[i].cs.put m.Txn.k (hear1 (w.ns[i].cs.tx m.Txn) m.From)) (fun y t' _ hg' => by
        rcases hs y t' hg' with ⟨rfl, rfl⟩ | hg'
        · exact ⟨_, hg, rfl, rfl, hhd⟩
        · exact ⟨_, hg', rfl, rfl, fun _ h => h⟩) rfl
      refine ⟨a, .inl rfl, fun _ => b, fun _ => hv, fun h => absurd h k3, fun _ hU => ?_, fun h => by omega⟩
      obtain ⟨t, ht, ho, hpp, hh⟩ := hU
      rw [hst, if_pos hx] at ht
      obtain ⟨t', ht', rfl⟩ := Option.map_eq_some_iff.1 ht
      have hg2 : mget m.Txn.k (mset m.Txn.k (hear1 (w.ns[i].cs.tx m.Txn) m.From) w.ns[i].cs.ts) = some t' := ht'
      rw [mget_mset, if_pos rfl] at hg2
      cases hg2
      have : (hear1 (w.ns[i].cs.tx m.Txn) m.From).hd m.From = true := by
        unfold TX.hd hear1
        simp only
        rw [mget_mset, if_pos rfl]; rfl
      have h9 : (hear1 (w.ns[i].cs.tx m.Txn) m.From).hd m.From = false := hh
      rw [this] at h9; cases h9
    | last k4 hp l o =>
      have hcut : ∀ y : Txn, mget y.k (w.ns[i].cs.cut m.Txn.k).ts = if y.k = m.Txn.k then none else mget y.k w.ns[i].cs.ts := fun y => mget_mdel IC.nd
      obtain ⟨a, b⟩ := key (s' := w.ns[i].cs.cut m.Txn.k) (fun y t' _ hg' => by
        rw [hcut] at hg'
        split at hg'
        · cases hg'
        · exact ⟨_, hg', rfl, rfl, fun _ h => h⟩) rfl
      refine ⟨a, .inl rfl, fun _ => b, fun _ => hv, fun h => absurd h k3, fun _ hU => ?_, fun h => by omega⟩
      obtain ⟨t, ht, _⟩ := hU
      rw [hst, if_pos hx, hcut, if_pos rfl] at ht
      cases ht
def yesM (x : Txn) (p : Int) : Message := decM x.Node x p true
def askX (x : Txn) (p : Int) : Message := { zMessage with From := p, To := x.Node, Kind := 5, Txn := x }
def sayN (q : PN) : List Message := ((allC q.cs).flatMap fun k => againL q.cs.node (toTx k) ((mget k q.cs.ts).getD zTX)) ++ askL q.ps
def sayW (w : PW) : List Message := w.ns.flatMap sayN
theorem Quiet.op {n K : Nat} {B : List BT} {w : PW} (I : WInv n K B w) (Q : Quiet w) {i : Nat} (h : i < w.ns.length) : ∀ k t, mget k w.ns[i].cs.ts = some t → t.op = true := fun k t hg => by
  have hn : (toTx k).Node = i := by rw [← (I.N.sh i h).2]; exact ((I.N.C i h).kn k t hg).1
  exact Q (toTx k) (viewT t) (by rw [st_at h hn, k_toTx, hg]; rfl)
theorem mem_again {n : Int} {x : Txn} {t : TX} {m : Message} (ho : t.op = true) : m ∈ againL n x t ↔ ∃ p ∈ t.parts, t.hd p = false ∧ m = decM n x p true := by
  unfold againL
  rw [List.mem_map]
  constructor
  · rintro ⟨p, hp, rfl⟩
    obtain ⟨h1, h2⟩ := List.mem_filter.1 hp
    exact ⟨p, h1, by simpa using h2, by unfold saidM; rw [if_pos ho]⟩
  · rintro ⟨p, h1, h2, rfl⟩
    exact ⟨p, List.mem_filter.2 ⟨h1, by rw [h2]; rfl⟩, by unfold saidM; rw [if_pos ho]⟩
theorem mem_askL {w : PW} {n K : Nat} {B : List BT} (I : WInv n K B w) {i : Nat} (h : i < w.ns.length) {m : Message} : m ∈ askL w.ns[i].ps ↔ ∃ x, PV (absW w) x i ∧ m = askX x i := by
  unfold askL
  rw [List.mem_map]
  have hp := prepL_spec (I.N.P i h).t.wd
  have hsh := (I.N.sh i h).1
  constructor
  · rintro ⟨q, hq, rfl⟩
    obtain ⟨u, h1, h2⟩ := (hp.mem q).1 hq
    refine ⟨q.Txn, by unfold PV; rw [wk_at h, h1]; simp, by unfold askM askX; rw [hsh]⟩
  · rintro ⟨x, hx, rfl⟩
    unfold PV at hx
    rw [wk_at h] at hx
    obtain ⟨u, hu⟩ := Option.ne_none_iff_exists'.1 hx
    exact ⟨recW x u, (hp.mem _).2 ⟨u, hu, rfl⟩, by unfold askM askX; rw [hsh]; rfl⟩
theorem mem_sayN {w : PW} {n K : Nat} {B : List BT} (I : WInv n K B w) (Q : Quiet w) {i : Nat} (h : i < w.ns.length) {m : Message} :
    m ∈ sayN w.ns[i] ↔ (∃ (x : Txn) (p : Int), x.Node = (i : Int) ∧ PU (absW w) x p ∧ m = yesM x p) ∨ ∃ (x : Txn), PV (absW w) x i ∧ m = askX x i := by
  unfold sayN
  rw [List.mem_append, mem_askL I h, List.mem_flatMap]
  have hnode := (I.N.sh i h).2
  refine or_congr ⟨?_, ?_⟩ Iff.rfl
  · rintro ⟨k, hk, hm⟩
    rw [mem_allC] at hk
    obtain ⟨t, ht⟩ := Option.isSome_iff_exists.1 hk
    have ho := Q.op I h k t ht
    rw [ht, Option.getD_some, mem_again ho] at hm
    obtain ⟨p, h1, h2, rfl⟩ := hm
    have hn : (toTx k).Node = i := by rw [← hnode]; exact ((I.N.C i h).kn k t ht).1
    refine ⟨toTx k, p, hn, ⟨viewT t, by rw [st_at h hn, k_toTx, ht]; rfl, ho, h1, h2⟩, by unfold yesM; rw [hn, hnode]⟩
  · rintro ⟨x, p, hn, ⟨t, ht, ho, h1, h2⟩, rfl⟩
    rw [st_at h hn] at ht
    obtain ⟨t', ht', rfl⟩ := Option.map_eq_some_iff.1 ht
    refine ⟨x.k, mem_allC.2 (by rw [ht']; rfl), ?_⟩
    rw [ht', Option.getD_some, mem_again (Q.op I h _ _ ht')]
    exact ⟨p, h1, h2, by unfold yesM; rw [hn, hnode]; rfl⟩
theorem PU.node {n K : Nat} {B : List BT} {w : PW} (I : WInv n K B w) {x : Txn} {p : Int} (h : PU (absW w) x p) : ∃ (i : Nat) (_ : i < w.ns.length), x.Node = i := by
  obtain ⟨t, ht, _⟩ := h
  obtain ⟨b, hb, e, _⟩ := I.S.sb x t ht
  obtain ⟨i, hi, h1, _⟩ := I.bx b hb
  exact ⟨i, hi, by rw [← e]; exact h1⟩
theorem PV.node {n K : Nat} {B : List BT} {w : PW} (I : WInv n K B w) {x : Txn} {p : Int} (h : PV (absW w) x p) : ∃ (i : Nat) (_ : i < w.ns.length), p = i := by
  obtain ⟨u, hu⟩ := Option.ne_none_iff_exists'.1 h
  have := I.part (I.S.wb _ _ _ hu).pt
  have hl := I.len
  exact ⟨p.toNat, by omega, by omega⟩
theorem mem_sayW {w : PW} {n K : Nat} {B : List BT} (I : WInv n K B w) (Q : Quiet w) {m : Message} : m ∈ sayW w ↔ ∃ x p, (PU (absW w) x p ∧ m = yesM x p) ∨ (PV (absW w) x p ∧ m = askX x p) := by
  unfold sayW
  rw [List.mem_flatMap]
  constructor
  · rintro ⟨q, hq, hm⟩
    obtain ⟨i, h, rfl⟩ := List.getElem_of_mem hq
    rcases (mem_sayN I Q h).1 hm with ⟨x, p, _, h1, h2⟩ | ⟨x, h1, h2⟩
    · exact ⟨x, p, .inl ⟨h1, h2⟩⟩
    · exact ⟨x, i, .inr ⟨h1, h2⟩⟩
  · rintro ⟨x, p, ⟨h1, h2⟩ | ⟨h1, h2⟩⟩
    · obtain ⟨i, h, e⟩ := h1.node I
      exact ⟨_, List.getElem_mem h, (mem_sayN I Q h).2 (.inl ⟨x, p, e, h1, h2⟩)⟩
    · obtain ⟨i, h, rfl⟩ := h1.node I
      exact ⟨_, List.getElem_mem h, (mem_sayN I Q h).2 (.inr ⟨x, h1, h2⟩)⟩
theorem say_from {w : PW} {n K : Nat} {B : List BT} (I : WInv n K B w) (Q : Quiet w) {i : Nat} (h : i < w.ns.length) {m : Message} (hm : m ∈ sayN w.ns[i]) : m.From = i := by
  rcases (mem_sayN I Q h).1 hm with ⟨x, p, e, _, rfl⟩ | ⟨x, _, rfl⟩
  · exact e
  · rfl
theorem sayN_nodup {w : PW} {n K : Nat} {B : List BT} (I : WInv n K B w) (Q : Quiet w) {i : Nat} (h : i < w.ns.length) : (sayN w.ns[i]).Nodup := by
  have hC := I.N.C i h
  have ho := Q.op I h
  unfold sayN
  rw [List.nodup_append]
  refine ⟨?_, ?_, ?_⟩
  · have hall : (allC w.ns[i].cs).Nodup := by
      rw [List.nodup_iff_pairwise_ne]
      exact (sort3_rise hC.nd).imp fun h e => by rw [e] at h; exact ltK_irr h
    rw [List.nodup_iff_pairwise_ne, List.pairwise_flatMap]
    refine ⟨fun k hk => ?_, ?_⟩
    · rw [mem_allC] at hk
      obtain ⟨t, ht⟩ := Option.isSome_iff_exists.1 hk
      rw [ht, Option.getD_some, ← List.nodup_iff_pairwise_ne]
      unfold againL
      refine nodup_map_of ((hC.ti k t ht).parts_nodup.sublist List.filter_sublist) fun a _ b _ e => ?_
      have := congrArg Message.To e
      unfold saidM at this
      rw [if_pos (ho k t ht), if_pos (ho k t ht)] at this
      exact this
    · rw [List.nodup_iff_pairwise_ne] at hall
      refine List.Pairwise.imp_of_mem (fun {a b} ha hb hne => ?_) hall
      rw [mem_allC] at ha hb
      obtain ⟨t, ht⟩ := Option.isSome_iff_exists.1 ha
      obtain ⟨t', ht'⟩ := Option.isSome_iff_exists.1 hb
      rw [ht, ht', Option.getD_some, Option.getD_some]
      intro m hm m' hm' e
      rw [mem_again (ho _ _ ht)] at hm
      rw [mem_again (ho _ _ ht')] at hm'
      obtain ⟨p, _, _, rfl⟩ := hm
      obtain ⟨p', _, _, rfl⟩ := hm'
      have := congrArg Message.Txn e
      exact hne (by have h9 : toTx a = toTx b := this; rw [← k_toTx a, ← k_toTx b, h9])
  · unfold askL
    have hp := (prepL_spec (I.N.P i h).t.wd).rise
    rw [List.nodup_iff_pairwise_ne, List.pairwise_map]
    refine hp.imp fun {a b} hab e => ?_
    have := congrArg Message.Txn e
    have h9 : a.Txn = b.Txn := this
    rw [h9] at hab; exact ltK_irr hab
  · intro a ha b hb e
    obtain ⟨x, _, rfl⟩ := (mem_askL I h).1 hb
    obtain ⟨k, hk, hm⟩ := List.mem_flatMap.1 ha
    rw [mem_allC] at hk
    obtain ⟨t, ht⟩ := Option.isSome_iff_exists.1 hk
    rw [ht, Option.getD_some, mem_again (ho _ _ ht)] at hm
    obtain ⟨p, _, _, rfl⟩ := hm
    have := congrArg Message.Kind e
    have h9 : (3 : Int) = 5 := this
    omega
theorem sayW_nodup {w : PW} {n K : Nat} {B : List BT} (I : WInv n K B w) (Q : Quiet w) : (sayW w).Nodup := by
  unfold sayW
  rw [List.nodup_iff_pairwise_ne, List.pairwise_flatMap]
  refine ⟨fun q hq => ?_, ?_⟩
  · obtain ⟨i, h, rfl⟩ := List.getElem_of_mem hq
    rw [← List.nodup_iff_pairwise_ne]
    exact sayN_nodup I Q h
  · rw [List.pairwise_iff_getElem]
    intro i j hi hj hij m hm m' hm' e
    have h1 := say_from I Q hi hm
    have h2 := say_from I Q hj hm'
    rw [e, h2] at h1
    omega
def cand (B : List BT) : List Message := B.flatMap fun b => b.ps.flatMap fun p => [yesM b.x p, askX b.x p]
theorem say_cand {w : PW} {n K : Nat} {B : List BT} (I : WInv n K B w) (Q : Quiet w) : ∀ m ∈ sayW w, m ∈ cand B := fun m hm => by
  obtain ⟨x, p, ⟨⟨t, ht, _, hp, _⟩, rfl⟩ | ⟨hv, rfl⟩⟩ := (mem_sayW I Q).1 hm
  · obtain ⟨b, hb, e, h2⟩ := I.S.sb x t ht
    exact List.mem_flatMap.2 ⟨b, hb, List.mem_flatMap.2 ⟨p, by rw [← h2]; exact hp, by rw [e]; exact List.mem_cons_self ..⟩⟩
  · obtain ⟨u, hu⟩ := Option.ne_none_iff_exists'.1 hv
    obtain ⟨b, hb, e, h2⟩ := (I.S.wb _ _ _ hu).pt
    exact List.mem_flatMap.2 ⟨b, hb, List.mem_flatMap.2 ⟨p, h2, by rw [e]; exact List.mem_cons_of_mem _ (List.mem_cons_self ..)⟩⟩
theorem bt_len {w : PW} {n K : Nat} {B : List BT} (I : WInv n K B w) {b : BT} (hb : b ∈ B) : b.ps.length ≤ n := by
  have hr := (I.bw b hb).1
  have hn : b.ps.Nodup := by rw [List.nodup_iff_pairwise_ne]; exact hr.imp fun h e => by omega
  have := nodup_sub_len (b := (List.range n).map fun (j : Nat) => (j : Int)) hn fun p hp => by
    have := I.part (x := b.x) (p := p) ⟨b, hb, rfl, hp⟩
    exact List.mem_map.2 ⟨p.toNat, List.mem_range.2 (by omega), by omega⟩
  simpa using this
theorem cand_len {n : Nat} : ∀ {B : List BT}, (∀ b ∈ B, b.ps.length ≤ n) → (cand B).length ≤ 2 * n * B.length
  | [], _ => by simp [cand]
  | b :: B, h => by
    have h1 := cand_len (B := B) fun c hc => h c (List.mem_cons_of_mem _ hc)
    have h2 := h b (List.mem_cons_self ..)
    have h3 : (b.ps.flatMap fun p => [yesM b.x p, askX b.x p]).length = 2 * b.ps.length := by
      generalize b.ps = l
      induction l with
      | nil => rfl
      | cons p l ih => rw [List.flatMap_cons, List.length_append, ih]; simp only [List.length_cons, List.length_nil]; omega
    show ((b.ps.flatMap fun p => [yesM b.x p, askX b.x p]) ++ cand B).length ≤ _
    rw [List.length_append, h3, List.length_cons, Nat.mul_add]
    have : 2 * b.ps.length ≤ 2 * n * 1 := by omega
    omega
theorem say_len {w : PW} {n K : Nat} {B : List BT} (I : WInv n K B w) (Q : Quiet w) : (sayW w).length ≤ 2 * n * B.length :=
  Nat.le_trans (nodup_sub_len (sayW_nodup I Q) (say_cand I Q)) (cand_len fun b hb => bt_len I hb)
end Go.Proofs.YtpphdbnifbjfmaaGreatDoor
