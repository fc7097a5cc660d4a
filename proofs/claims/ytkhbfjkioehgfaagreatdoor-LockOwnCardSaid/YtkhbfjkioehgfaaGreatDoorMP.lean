/- The table and the reference's go together. No program in sight. -/
import Derived.Test.YtkhbfjkioehgfaaGreatDoorMC
set_option linter.unusedVariables false
set_option linter.unusedSimpArgs false
namespace Go.Proofs.YtkhbfjkioehgfaaGreatDoor
open Go Go.Sx Go.Proofs
structure Rel (s : TS) (m : Table) : Prop where
  h : HSpec m.Held (fun k => mget k s.held)
  p : PSpec m.Prep (gW s)
theorem Rel.held {n : Nat} {s : TS} {m : Table} (I : Inv n s) (r : Rel s m) : holdsL s = m.Held := (holdsL_spec I.hd).uniq r.h
theorem Rel.prep {n : Nat} {s : TS} {m : Table} (I : Inv n s) (r : Rel s m) : prepL s = m.Prep := (prepL_spec I.wd).uniq r.p
theorem rel0 : Rel ⟨[], [], []⟩ ⟨[], []⟩ := ⟨⟨by simp, fun h => by simp [mget]⟩, ⟨by simp, fun q => by simp [gW, mget]⟩⟩
theorem Rel.recs {s : TS} {m : Table} (r : Rel s m) {q : Rec} (hq : q ∈ m.Prep) : gW s q.Txn.k = some q.Work := by
  obtain ⟨w, h1, h2⟩ := (r.p.mem q).1 hq
  have : w = q.Work := by rw [h2]; rfl
  rw [← this]; exact h1
theorem Rel.lock {n : Nat} {s : TS} {m : Table} (I : Inv n s) (r : Rel s m) (k : ByteArray) : (findL m.Prep k).map (·.Txn) = mget k s.locked := by
  cases hf : findL m.Prep k with
  | some q =>
    have h1 := List.find?_some hf
    have h2 := List.mem_of_find?_eq_some hf
    simp only [decide_eq_true_eq] at h1
    exact ((I.lk k q.Txn).2 ⟨_, r.recs h2, h1⟩).symm
  | none =>
    cases hm : mget k s.locked with
    | none => rfl
    | some x =>
      obtain ⟨w, hg, hk⟩ := (I.lk k x).1 hm
      unfold findL at hf
      rw [List.find?_eq_none] at hf
      exact absurd (decide_eq_true (p := k ∈ (recW x w).Work.ks) hk) (hf (recW x w) ((r.p.mem _).2 ⟨w, hg, rfl⟩))
theorem Rel.lockN {n : Nat} {s : TS} {m : Table} (I : Inv n s) (r : Rel s m) (k : ByteArray) : findL m.Prep k = none ↔ mget k s.locked = none := by
  rw [← r.lock I k]; simp
theorem Rel.heldN {s : TS} {m : Table} (r : Rel s m) (k : ByteArray) : findH m.Held k = none ↔ mget k s.held = none := by
  rw [r.h.find k]; simp
theorem Rel.way {n : Nat} {s : TS} {m : Table} (I : Inv n s) (r : Rel s m) (w : Work) : WayR m w ↔ wayT s w 0 w.ks = true := by
  rw [wayT_iff]
  unfold WayR
  constructor
  · intro h j hj
    obtain ⟨h1, h2⟩ := h j hj
    refine ⟨(r.lockN I _).1 h1, ?_⟩
    rcases h2 with h2 | h2
    · exact .inl (by omega)
    · exact .inr ((r.heldN _).1 h2)
  · intro h j hj
    obtain ⟨h1, h2⟩ := h j hj
    refine ⟨(r.lockN I _).2 h1, ?_⟩
    rcases h2 with h2 | h2
    · exact .inl (by omega)
    · exact .inr ((r.heldN _).2 h2)
theorem gW_some {s : TS} {k : K3} : (mget k s.works).isSome = true ↔ gW s k ≠ none := by
  unfold gW; cases mget k s.works <;> simp
theorem Rel.atN {s : TS} {m : Table} (r : Rel s m) {x : Txn} (h : ∀ q ∈ m.Prep, q.Txn ≠ x) : ¬ (mget x.k s.works).isSome = true := by
  rw [gW_some, r.p.none h]; simp
theorem Rel.atS {s : TS} {m : Table} (r : Rel s m) {q : Rec} (h : q ∈ m.Prep) : (mget q.Txn.k s.works).isSome = true := by
  rw [gW_some, r.recs h]; simp
theorem Rel.prepare {n : Nat} {s : TS} {m m' : Table} {x : Txn} {w : Work} {e : Int} (I : Inv n s) (r : Rel s m) (h : RPrep m x w m' e) :
    e = prepE s x w ∧ ∀ cs, Rel (if prepE s x w = 0 then prepT s x w cs else s) m' := by
  cases h with
  | twice h =>
    obtain ⟨q, hq, rfl⟩ := h
    have hE : prepE s q.Txn w = 2 := if_pos (r.atS hq)
    rw [hE]
    exact ⟨rfl, fun cs => by rw [if_neg (by decide)]; exact r⟩
  | range h0 h =>
    have hE : prepE s x w = 1 := (if_neg (r.atN h0)).trans (if_pos (dupT_iff.2 h))
    rw [hE]
    exact ⟨rfl, fun cs => by rw [if_neg (by decide)]; exact r⟩
  | way h0 h1 h2 =>
    have hE : prepE s x w = 140 := (if_neg (r.atN h0)).trans ((if_neg fun h => dupT_iff.1 h h1).trans (if_neg fun h => h2 ((r.way I w).2 h)))
    rw [hE]
    exact ⟨rfl, fun cs => by rw [if_neg (by decide)]; exact r⟩
  | ok h0 h1 h2 i hi h3 h4 =>
    have hE : prepE s x w = 0 := (if_neg (r.atN h0)).trans ((if_neg fun h => dupT_iff.1 h h1).trans (if_pos ((r.way I w).1 h2)))
    rw [hE]
    refine ⟨rfl, fun cs => ?_⟩
    rw [if_pos rfl]
    exact ⟨r.h, (r.p.ins (r.p.none h0) hi h3 h4).congr fun k => (gW_prep k).symm⟩
theorem Rel.apply {n : Nat} {s : TS} {m m' : Table} {x : Txn} {yes : Bool} {e : Int} (I : Inv n s) (r : Rel s m) (h : RApply m x yes m' e) : e = applyE s x ∧ Rel (applyT s x yes) m' := by
  rw [applyT_eq]
  cases h with
  | none h =>
    refine ⟨?_, ?_⟩
    · unfold applyE; rw [if_neg (r.atN h)]
    · rw [r.p.none h]; exact r
  | ok j hj hx =>
    have hg := r.recs (List.getElem_mem hj)
    have hs := r.atS (List.getElem_mem hj)
    have hera := r.p.era hj hx
    rw [hx] at hg hs
    refine ⟨by unfold applyE; rw [if_pos hs], ?_⟩
    rw [hg]
    dsimp only
    generalize m.Prep[j].Work = w at hg ⊢
    refine ⟨?_, hera.congr fun k => (gW_apply I.wd k).symm⟩
    cases yes with
    | false => exact r.h
    | true =>
      obtain ⟨d1, d2⟩ := dropR_spec (r := w.Robot) (ks := w.Drop) r.h I.hd
      exact (takeR_spec (r := w.Robot) (ks := w.Take) d1 d2).1
theorem Rel.expire {n : Nat} {s : TS} {m : Table} {now : Int} (I : Inv n s) (r : Rel s m) :
    expireL s now = (m.Held.filter fun h => goneK now h.Key).map (·.Key) ∧ Rel (expireT s now) ⟨m.Held.filter fun h => !goneK now h.Key, m.Prep⟩ := by
  refine ⟨?_, ?_, r.p⟩
  · rw [← r.held I]
    unfold expireL holdsL
    rw [List.filter_map, List.map_map]
    have : (fun h : Hold => h.Key) ∘ holdOf s = id := rfl
    rw [this, List.map_id]
    rfl
  · refine (r.h.filter fun k => !goneK now k).congr fun k => ?_
    rw [(I.expire (now := now)).2 k]
    cases goneK now k <;> rfl
end Go.Proofs.YtkhbfjkioehgfaaGreatDoor
