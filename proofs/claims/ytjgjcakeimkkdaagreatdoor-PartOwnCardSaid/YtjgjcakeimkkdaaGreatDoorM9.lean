/- A participant and the reference's go together. No program in sight. The laws of a participant. No program in sight. The reference's participant: its small functions. -/
import Derived.Test.YtjgjcakeimkkdaaGreatDoorM6
import Derived.Test.YtjgjcakeimkkdaaGreatDoorM8
set_option linter.unusedVariables false
set_option linter.unusedSimpArgs false
namespace Go.Proofs.YtjgjcakeimkkdaaGreatDoor
open Go Go.Sx Go.Proofs
abbrev RD := Convoyref15Done
/-- a list of what is done -/
structure DSpec (l : List RD) (f : K3 → Option Int) : Prop where
  rise : l.Pairwise fun a b => ltK a.Txn.k b.Txn.k
  mem : ∀ d, d ∈ l ↔ f d.Txn.k = some d.Until
theorem DSpec.uniq {l l' : List RD} {f : K3 → Option Int} (h : DSpec l f) (h' : DSpec l' f) : l = l' :=
  rise_eq (lt := fun a b : RD => ltK a.Txn.k b.Txn.k) (fun _ => ltK_irr) (fun _ _ => ltK_asy) h.rise h'.rise fun a => by rw [h.mem, h'.mem]
theorem DSpec.congr {l : List RD} {f g : K3 → Option Int} (h : DSpec l f) (e : ∀ k, f k = g k) : DSpec l g := by
  obtain rfl : f = g := funext e
  exact h
def toR (d : PartDone) : RD := ⟨d.Txn, d.Until⟩
theorem doneL_spec {s : PS} (hn : (s.done.map (·.1)).Nodup) : DSpec ((doneL s).map toR) (fun k => mget k s.done) := by
  unfold doneL
  rw [List.map_map]
  refine ⟨?_, fun d => ?_⟩
  · rw [List.pairwise_map]
    exact (sort3_rise hn).imp fun h => h
  · rw [List.mem_map]
    constructor
    · rintro ⟨k, hk, rfl⟩
      obtain ⟨v, hv⟩ := mget_key.1 (mem_sort3.1 hk)
      show mget (toTx k).k s.done = some ((mget k s.done).getD 0)
      rw [k_toTx, hv]; rfl
    · intro hg
      refine ⟨d.Txn.k, mem_sort3.2 (mget_key.2 ⟨_, hg⟩), ?_⟩
      show toR (doneOf s d.Txn.k) = d
      simp only [doneOf, toR, hg, Option.getD_some, toTx_k]
theorem DSpec.none {l : List RD} {f : K3 → Option Int} (h : DSpec l f) {x : Txn} (hx : ∀ d ∈ l, d.Txn ≠ x) : f x.k = none := by
  cases hf : f x.k with
  | none => rfl
  | some v => exact absurd rfl (hx ⟨x, v⟩ ((h.mem _).2 hf))
theorem DSpec.some {l : List RD} {f : K3 → Option Int} (h : DSpec l f) {d : RD} (hd : d ∈ l) : f d.Txn.k = some d.Until := (h.mem d).1 hd
/-- one more put in -/
def putL (d : RD) : List RD → List RD
  | [] => [d]
  | a :: l => if ltK a.Txn.k d.Txn.k then a :: putL d l else d :: a :: l
theorem mem_putL {d e : RD} : ∀ {l : List RD}, e ∈ putL d l ↔ e = d ∨ e ∈ l
  | [] => by simp [putL]
  | a :: l => by
    unfold putL
    split
    · rw [List.mem_cons, mem_putL, List.mem_cons]
      constructor
      · rintro (h | h | h)
        · exact .inr (.inl h)
        · exact .inl h
        · exact .inr (.inr h)
      · rintro (h | h | h)
        · exact .inr (.inl h)
        · exact .inl h
        · exact .inr (.inr h)
    · simp
theorem putL_rise {d : RD} : ∀ {l : List RD}, l.Pairwise (fun a b => ltK a.Txn.k b.Txn.k) → (∀ a ∈ l, a.Txn.k ≠ d.Txn.k) → (putL d l).Pairwise fun a b => ltK a.Txn.k b.Txn.k
  | [], _, _ => by simp [putL]
  | a :: l, hr, hn => by
    rw [List.pairwise_cons] at hr
    unfold putL
    split
    · next h =>
      rw [List.pairwise_cons]
      refine ⟨fun b hb => ?_, putL_rise hr.2 fun b hb => hn b (List.mem_cons_of_mem _ hb)⟩
      rcases mem_putL.1 hb with rfl | hb
      · exact h
      · exact hr.1 b hb
    · next h =>
      have h0 : ltK d.Txn.k a.Txn.k := Classical.byContradiction fun hc => hn a (List.mem_cons_self ..) (ltK_tot h hc)
      rw [List.pairwise_cons, List.pairwise_cons]
      refine ⟨fun b hb => ?_, hr⟩
      rcases List.mem_cons.1 hb with rfl | hb
      · exact h0
      · exact ltK_trans h0 (hr.1 b hb)
theorem DSpec.put {l : List RD} {f : K3 → Option Int} (h : DSpec l f) {d : RD} (hd : f d.Txn.k = Option.none) : DSpec (putL d l) (fun k => if k = d.Txn.k then Option.some d.Until else f k) := by
  have hne : ∀ a ∈ l, a.Txn.k ≠ d.Txn.k := fun a ha e => by
    have := h.some ha
    rw [e, hd] at this; cases this
  refine ⟨putL_rise h.rise hne, fun e => ?_⟩
  rw [mem_putL, h.mem]
  by_cases he : e.Txn.k = d.Txn.k
  · simp only [he, if_true, Option.some.injEq]
    constructor
    · rintro (rfl | hf)
      · rfl
      · rw [hd] at hf; cases hf
    · intro hu
      left
      obtain ⟨et, eu⟩ := e
      obtain ⟨dt, du⟩ := d
      have := k_inj he
      simp only at this hu
      rw [this, hu]
  · simp only [he, if_false]
    constructor
    · rintro (rfl | hf)
      · exact absurd rfl he
      · exact hf
    · exact .inr
theorem DSpec.filter {l : List RD} {f : K3 → Option Int} (h : DSpec l f) (now : Int) : DSpec (l.filter fun d => decide (now ≤ d.Until)) (fun k => if (f k).any (fun v => !decide (v < now)) = true then f k else Option.none) := by
  refine ⟨h.rise.sublist List.filter_sublist, fun d => ?_⟩
  rw [List.mem_filter, h.mem]
  cases hf : f d.Txn.k with
  | none => simp
  | some v =>
    simp only [Option.any_some, Option.some.injEq, decide_eq_true_eq, Bool.not_eq_true', decide_eq_false_iff_not]
    by_cases hv : v < now
    · simp only [hv, not_true, if_false]
      constructor
      · rintro ⟨rfl, h2⟩; omega
      · intro h; cases h
    · simp only [hv, not_false_iff, if_true, Option.some.injEq]
      constructor
      · exact fun h => h.1
      · rintro rfl; exact ⟨rfl, by omega⟩
structure PRel (s : PS) (m : Part) : Prop where
  sh : m.Shard = s.sh
  r : Rel s.t m.T
  d : DSpec m.Done (fun k => mget k s.done)
theorem prel0 {sh : Int} : PRel ⟨sh, ⟨[], [], []⟩, []⟩ ⟨sh, ⟨[], []⟩, []⟩ := ⟨rfl, rel0, ⟨by simp, fun d => by simp [mget]⟩⟩
theorem PRel.dones {n : Nat} {s : PS} {m : Part} (I : PInv n s) (r : PRel s m) : (doneL s).map toR = m.Done := (doneL_spec I.dd).uniq r.d
def forR (m : Part) (g : Message) : Prop := g.To = m.Shard ∧ g.From = g.Txn.Node
def voteR (m : Part) (g : Message) (y : Bool) : Message := { zMessage with From := m.Shard, To := g.From, Kind := 2, Txn := g.Txn, Yes := y }
def ackR (m : Part) (g : Message) : Message := { zMessage with From := m.Shard, To := g.From, Kind := 4, Txn := g.Txn }
def prepR (m : Part) (x : Txn) : Prop := ∃ q ∈ m.T.Prep, q.Txn = x
def doneR (m : Part) (x : Txn) : Prop := ∃ d ∈ m.Done, d.Txn = x
/-- the reference's answer -/
inductive RHear (m : Part) (g : Message) : Part → List Message → List Rec → Prop
  | off (h : ¬ forR m g) : RHear m g m [] []
  | done (h : forR m g) (k : g.Kind = 1) (hd : doneR m g.Txn) : RHear m g m [] []
  | again (h : forR m g) (k : g.Kind = 1) (hd : ¬ doneR m g.Txn) (hp : prepR m g.Txn) : RHear m g m [voteR m g true] []
  | no (h : forR m g) (k : g.Kind = 1) (hd : ¬ doneR m g.Txn) (hp : ¬ prepR m g.Txn) (t' : Table) (e : Int) (hr : RPrep m.T g.Txn g.Work t' e) (he : e ≠ 0) : RHear m g ⟨m.Shard, t', m.Done⟩ [voteR m g false] []
  | yes (h : forR m g) (k : g.Kind = 1) (hd : ¬ doneR m g.Txn) (hp : ¬ prepR m g.Txn) (t' : Table) (hr : RPrep m.T g.Txn g.Work t' 0) : RHear m g ⟨m.Shard, t', m.Done⟩ [voteR m g true] [recP g]
  | ack (h : forR m g) (k : g.Kind = 3) (t' : Table) (e : Int) (D : List RD) (hr : RApply m.T g.Txn g.Yes t' e)
      (hD : (∃ q ∈ m.T.Prep, q.Txn = g.Txn ∧ g.Yes = true ∧ D = putL ⟨g.Txn, untilL 0 q.Work.ks⟩ m.Done) ∨ ((prepR m g.Txn → g.Yes = false) ∧ D = m.Done)) : RHear m g ⟨m.Shard, t', D⟩ [ackR m g] (if e = 0 then [recA g] else [])
  | other (h : forR m g) (k1 : g.Kind ≠ 1) (k3 : g.Kind ≠ 3) : RHear m g m [] []
theorem PRel.forMe {s : PS} {m : Part} (r : PRel s m) {g : Message} : forMe s g ↔ forR m g := by unfold forR Go.Proofs.YtjgjcakeimkkdaaGreatDoor.forMe; rw [r.sh]
theorem PRel.vote {s : PS} {m : Part} (r : PRel s m) {g : Message} {y : Bool} : voteR m g y = voteM s g y := by unfold voteR voteM; rw [r.sh]
theorem PRel.ackE {s : PS} {m : Part} (r : PRel s m) {g : Message} : ackR m g = ackM s g := by unfold ackR ackM; rw [r.sh]
theorem PRel.isD {s : PS} {m : Part} (r : PRel s m) {x : Txn} : isD s x ↔ doneR m x := by
  unfold Go.Proofs.YtjgjcakeimkkdaaGreatDoor.isD doneR
  constructor
  · intro h
    cases hg : mget x.k s.done with
    | none => rw [hg] at h; cases h
    | some v => exact ⟨⟨x, v⟩, (r.d.mem _).2 hg, rfl⟩
  · rintro ⟨d, hd, rfl⟩
    rw [r.d.some hd]; rfl
theorem PRel.isP {s : PS} {m : Part} (r : PRel s m) {x : Txn} : isP s x ↔ prepR m x := by
  unfold prepR
  constructor
  · intro h
    refine Classical.byContradiction fun hc => ?_
    have hn : ∀ q ∈ m.T.Prep, q.Txn ≠ x := fun q hq e => hc ⟨q, hq, e⟩
    exact r.r.atN hn h
  · rintro ⟨q, hq, rfl⟩
    exact r.r.atS hq
theorem PRel.hear {n : Nat} {s : PS} {m m' : Part} {g : Message} {out : List Message} {rec : List Rec} (I : PInv n s) (r : PRel s m) (h : RHear m g m' out rec) :
    out = hearOut s g ∧ rec = hearRec s g ∧ ∀ cs, PRel (hearS s g cs) m' := by
  unfold hearOut hearRec hearS
  cases h with
  | off h =>
    have hf : ¬ Go.Proofs.YtjgjcakeimkkdaaGreatDoor.forMe s g := fun hh => h (r.forMe.1 hh)
    refine ⟨by rw [if_pos hf], by rw [if_pos hf], fun cs => by rw [if_pos hf]; exact r⟩
  | done h k hd =>
    have hf : ¬ ¬ Go.Proofs.YtjgjcakeimkkdaaGreatDoor.forMe s g := fun hh => hh (r.forMe.2 h)
    have h1 := r.isD.2 hd
    refine ⟨by rw [if_neg hf, if_pos k, if_pos h1], by rw [if_neg hf, if_pos k, if_pos h1], fun cs => by rw [if_neg hf, if_pos k, if_pos h1]; exact r⟩
  | again h k hd hp =>
    have hf : ¬ ¬ Go.Proofs.YtjgjcakeimkkdaaGreatDoor.forMe s g := fun hh => hh (r.forMe.2 h)
    have h1 : ¬ Go.Proofs.YtjgjcakeimkkdaaGreatDoor.isD s g.Txn := fun hh => hd (r.isD.1 hh)
    have h2 := r.isP.2 hp
    refine ⟨by rw [if_neg hf, if_pos k, if_neg h1, decide_eq_true (p := _ ∨ _) (.inl h2), r.vote], by rw [if_neg hf, if_pos k, if_neg h1, if_pos h2], fun cs => by rw [if_neg hf, if_pos k, if_neg h1, if_pos h2]; exact r⟩
  | no h k hd hp t' e hr he =>
    have hf : ¬ ¬ Go.Proofs.YtjgjcakeimkkdaaGreatDoor.forMe s g := fun hh => hh (r.forMe.2 h)
    have h1 : ¬ Go.Proofs.YtjgjcakeimkkdaaGreatDoor.isD s g.Txn := fun hh => hd (r.isD.1 hh)
    have h2 : ¬ Go.Proofs.YtjgjcakeimkkdaaGreatDoor.isP s g.Txn := fun hh => hp (r.isP.1 hh)
    obtain ⟨e1, hrel⟩ := r.r.prepare I.t hr
    subst e1
    have hrel := hrel []
    rw [if_neg he] at hrel
    refine ⟨by rw [if_neg hf, if_pos k, if_neg h1, decide_eq_false (p := _ ∨ _) (fun hh => hh.elim h2 he), r.vote], by rw [if_neg hf, if_pos k, if_neg h1, if_neg h2, if_neg he], fun cs => by rw [if_neg hf, if_pos k, if_neg h1, if_neg h2, if_neg he]; exact ⟨r.sh, hrel, r.d⟩⟩
  | yes h k hd hp t' hr =>
    have hf : ¬ ¬ Go.Proofs.YtjgjcakeimkkdaaGreatDoor.forMe s g := fun hh => hh (r.forMe.2 h)
    have h1 : ¬ Go.Proofs.YtjgjcakeimkkdaaGreatDoor.isD s g.Txn := fun hh => hd (r.isD.1 hh)
    have h2 : ¬ Go.Proofs.YtjgjcakeimkkdaaGreatDoor.isP s g.Txn := fun hh => hp (r.isP.1 hh)
    obtain ⟨e1, hrel⟩ := r.r.prepare I.t hr
    have he := e1.symm
    refine ⟨by rw [if_neg hf, if_pos k, if_neg h1, decide_eq_true (p := _ ∨ _) (.inr he), r.vote], by rw [if_neg hf, if_pos k, if_neg h1, if_neg h2, if_pos he], fun cs => ?_⟩
    rw [if_neg hf, if_pos k, if_neg h1, if_neg h2, if_pos he]
    have := hrel cs
    rw [if_pos he] at this
    exact ⟨r.sh, this, r.d⟩
  | ack h k t' e D hr hD =>
    have hf : ¬ ¬ Go.Proofs.YtjgjcakeimkkdaaGreatDoor.forMe s g := fun hh => hh (r.forMe.2 h)
    have k1 : ¬ g.Kind = 1 := by omega
    obtain ⟨e1, hrel⟩ := r.r.apply I.t hr
    have hap : applyE s.t g.Txn = if Go.Proofs.YtjgjcakeimkkdaaGreatDoor.isP s g.Txn then 0 else 4 := rfl
    rw [hap] at e1
    by_cases h2 : Go.Proofs.YtjgjcakeimkkdaaGreatDoor.isP s g.Txn
    · rw [if_pos h2] at e1
      subst e1
      refine ⟨by rw [if_neg hf, if_neg k1, if_pos k, r.ackE], by rw [if_neg hf, if_neg k1, if_pos k, if_pos h2, if_pos rfl], fun cs => ?_⟩
      rw [if_neg hf, if_neg k1, if_pos k, if_pos h2]
      refine ⟨r.sh, hrel, ?_⟩
      rcases hD with ⟨q, hq, hqx, hy, rfl⟩ | ⟨hy, rfl⟩
      · obtain ⟨w, hw⟩ := isP_iff.1 h2
        have hg := r.r.recs hq
        rw [hqx, hw] at hg
        cases hg
        have hno : mget g.Txn.k s.done = none := by
          cases hd : mget g.Txn.k s.done with
          | none => rfl
          | some v => have := I.ap _ _ hd; rw [hw] at this; cases this
        have hu : untilS s g.Txn = untilL 0 q.Work.ks := by
          unfold untilS
          rw [if_pos h2]
          unfold gW at hw
          cases hm : mget g.Txn.k s.t.works with
          | none => rw [hm] at hw; cases hw
          | some v => rw [hm] at hw; have hv : v.2 = q.Work := (by simpa using hw); show untilL 0 v.2.ks = _; rw [hv]
        rw [if_pos hy]
        refine (r.d.put (d := ⟨g.Txn, untilL 0 q.Work.ks⟩) hno).congr fun k => ?_
        rw [mget_mset, hu]
      · have hy' := hy (r.isP.1 h2)
        rw [if_neg (by rw [hy']; decide)]
        exact r.d
    · rw [if_neg h2] at e1
      subst e1
      refine ⟨by rw [if_neg hf, if_neg k1, if_pos k, r.ackE], by rw [if_neg hf, if_neg k1, if_pos k, if_neg h2]; rfl, fun cs => ?_⟩
      rw [if_neg hf, if_neg k1, if_pos k, if_neg h2]
      have hat : applyT s.t g.Txn g.Yes = s.t := if_neg h2
      rw [hat] at hrel
      refine ⟨r.sh, hrel, ?_⟩
      rcases hD with ⟨q, hq, hqx, hy, rfl⟩ | ⟨hy, rfl⟩
      · exact absurd (r.isP.2 ⟨q, hq, hqx⟩) h2
      · exact r.d
  | other h k1 k3 =>
    have hf : ¬ ¬ Go.Proofs.YtjgjcakeimkkdaaGreatDoor.forMe s g := fun hh => hh (r.forMe.2 h)
    refine ⟨by rw [if_neg hf, if_neg k1, if_neg k3], by rw [if_neg hf, if_neg k1, if_neg k3], fun cs => by rw [if_neg hf, if_neg k1, if_neg k3]; exact r⟩
theorem PRel.expire {n : Nat} {s : PS} {m : Part} {now : Int} (I : PInv n s) (r : PRel s m) :
    expireL s.t now = (m.T.Held.filter fun h => goneK now h.Key).map (·.Key) ∧ PRel (expireP s now) ⟨m.Shard, ⟨m.T.Held.filter fun h => !goneK now h.Key, m.T.Prep⟩, m.Done.filter fun d => decide (now ≤ d.Until)⟩ := by
  obtain ⟨h1, h2⟩ := r.r.expire I.t (now := now)
  refine ⟨h1, r.sh, h2, (r.d.filter now).congr fun k => ?_⟩
  exact (mget_filter (p := fun q : K3 × Int => !decide (q.2 < now)) I.dd).symm
theorem PRel.asks {n : Nat} {s : PS} {m : Part} (I : PInv n s) (r : PRel s m) : (prepL s.t).map (fun q => askM s q.Txn) = m.T.Prep.map fun q => { zMessage with From := m.Shard, To := q.Txn.Node, Kind := 5, Txn := q.Txn } := by
  rw [r.r.prep I.t, r.sh]; rfl
end Go.Proofs.YtjgjcakeimkkdaaGreatDoor

set_option linter.unusedVariables false
set_option linter.unusedSimpArgs false
namespace Go.Proofs.YtjgjcakeimkkdaaGreatDoor
open Go Go.Sx Go.Proofs
/-- what a call to Hear may do: eight cases -/
theorem hear_cases (s : PS) (m : Message) :
    (hearOut s m = [] ∧ hearRec s m = [] ∧ ∀ cs, hearS s m cs = s) ∨
    (forMe s m ∧ m.Kind = 1 ∧ ¬ isD s m.Txn ∧ isP s m.Txn ∧ hearOut s m = [voteM s m true] ∧ hearRec s m = [] ∧ ∀ cs, hearS s m cs = s) ∨
    (forMe s m ∧ m.Kind = 1 ∧ ¬ isD s m.Txn ∧ ¬ isP s m.Txn ∧ prepE s.t m.Txn m.Work = 0 ∧ hearOut s m = [voteM s m true] ∧ hearRec s m = [recP m] ∧ ∀ cs, hearS s m cs = ⟨s.sh, prepT s.t m.Txn m.Work cs, s.done⟩) ∨
    (forMe s m ∧ m.Kind = 1 ∧ ¬ isD s m.Txn ∧ ¬ isP s m.Txn ∧ prepE s.t m.Txn m.Work ≠ 0 ∧ hearOut s m = [voteM s m false] ∧ hearRec s m = [] ∧ ∀ cs, hearS s m cs = s) ∨
    (forMe s m ∧ m.Kind = 3 ∧ isP s m.Txn ∧ hearOut s m = [ackM s m] ∧ hearRec s m = [recA m] ∧ ∀ cs, hearS s m cs = ⟨s.sh, applyT s.t m.Txn m.Yes, if m.Yes = true then mset m.Txn.k (untilS s m.Txn) s.done else s.done⟩) ∨
    (forMe s m ∧ m.Kind = 3 ∧ ¬ isP s m.Txn ∧ hearOut s m = [ackM s m] ∧ hearRec s m = [] ∧ ∀ cs, hearS s m cs = s) := by
  unfold hearOut hearRec hearS
  by_cases hf : forMe s m
  · have hf' : ¬ ¬ forMe s m := fun h => h hf
    simp only [if_neg hf']
    by_cases k : m.Kind = 1
    · simp only [if_pos k]
      by_cases hd : isD s m.Txn
      · simp only [if_pos hd]; exact .inl ⟨(by first | rfl | trivial), (by first | rfl | trivial), (by first | exact fun _ => rfl | trivial | simp)⟩
      · simp only [if_neg hd]
        by_cases hp : isP s m.Txn
        · simp only [if_pos hp]
          exact .inr (.inl ⟨hf, k, hd, hp, by rw [decide_eq_true (p := _ ∨ _) (.inl hp)], (by first | rfl | trivial), (by first | exact fun _ => rfl | trivial | simp)⟩)
        · simp only [if_neg hp]
          by_cases he : prepE s.t m.Txn m.Work = 0
          · simp only [if_pos he]
            exact .inr (.inr (.inl ⟨hf, k, hd, hp, he, by rw [decide_eq_true (p := _ ∨ _) (.inr he)], (by first | rfl | trivial), (by first | exact fun _ => rfl | trivial | simp)⟩))
          · simp only [if_neg he]
            exact .inr (.inr (.inr (.inl ⟨hf, k, hd, hp, he, by rw [decide_eq_false (p := _ ∨ _) (fun h => h.elim hp he)], (by first | rfl | trivial), (by first | exact fun _ => rfl | trivial | simp)⟩)))
    · simp only [if_neg k]
      by_cases k3 : m.Kind = 3
      · simp only [if_pos k3]
        by_cases hp : isP s m.Txn
        · simp only [if_pos hp]
          exact .inr (.inr (.inr (.inr (.inl ⟨hf, k3, hp, (by first | rfl | trivial), (by first | rfl | trivial), (by first | exact fun _ => rfl | trivial | simp)⟩))))
        · simp only [if_neg hp]
          exact .inr (.inr (.inr (.inr (.inr ⟨hf, k3, hp, (by first | rfl | trivial), (by first | rfl | trivial), (by first | exact fun _ => rfl | trivial | simp)⟩))))
      · simp only [if_neg k3]; exact .inl ⟨(by first | rfl | trivial), (by first | rfl | trivial), (by first | exact fun _ => rfl | trivial | simp)⟩
  · simp only [if_pos hf]; exact .inl ⟨(by first | rfl | trivial), (by first | rfl | trivial), (by first | exact fun _ => rfl | trivial | simp)⟩
theorem applyT_P {s : PS} {x : Txn} {yes : Bool} {n : Nat} (I : PInv n s) (k : K3) : gW (applyT s.t x yes) k = if k = x.k then none else gW s.t k := by
  unfold applyT
  by_cases hp : (mget x.k s.t.works).isSome = true
  · rw [if_pos hp]
    exact gW_apply I.t.wd k
  · rw [if_neg hp]
    split
    · next e =>
      subst e
      unfold gW
      cases hm : mget x.k s.t.works with
      | none => rfl
      | some v => rw [hm] at hp; exact absurd rfl hp
    · rfl
/-- heard again -/
theorem hear_again {n : Nat} {s : PS} {m : Message} {cs : List Value} (I : PInv n s) : hearOut (hearS s m cs) m = hearOut s m ∧ hearRec (hearS s m cs) m = [] ∧ ∀ cs', hearS (hearS s m cs) m cs' = hearS s m cs := by
  rcases hear_cases s m with ⟨h1, h2, h3⟩ | ⟨hf, k, hd, hp, h1, h2, h3⟩ | ⟨hf, k, hd, hp, he, h1, h2, h3⟩ | ⟨hf, k, hd, hp, he, h1, h2, h3⟩ | ⟨hf, k, hp, h1, h2, h3⟩ | ⟨hf, k, hp, h1, h2, h3⟩
  · rw [h3]; exact ⟨rfl, h2, h3⟩
  · rw [h3]; exact ⟨rfl, h2, h3⟩
  · rw [h3, h1]
    have hf' : ¬ ¬ forMe ⟨s.sh, prepT s.t m.Txn m.Work cs, s.done⟩ m := fun h => h hf
    have hd' : ¬ isD ⟨s.sh, prepT s.t m.Txn m.Work cs, s.done⟩ m.Txn := hd
    have hp' : isP ⟨s.sh, prepT s.t m.Txn m.Work cs, s.done⟩ m.Txn := isP_iff.2 ⟨m.Work, by show gW (prepT s.t m.Txn m.Work cs) m.Txn.k = _; rw [gW_prep, if_pos rfl]⟩
    unfold hearOut hearRec hearS
    simp only [if_neg hf', if_pos k, if_neg hd', if_pos hp']
    exact ⟨by rw [decide_eq_true (p := _ ∨ _) (.inl hp')]; rfl, trivial, fun _ => trivial⟩
  · rw [h3]; exact ⟨rfl, h2, h3⟩
  · rw [h3, h1]
    generalize hD : (if m.Yes = true then mset m.Txn.k (untilS s m.Txn) s.done else s.done) = D
    have hf' : ¬ ¬ forMe ⟨s.sh, applyT s.t m.Txn m.Yes, D⟩ m := fun h => h hf
    have hk : ¬ m.Kind = 1 := by omega
    have hp' : ¬ isP ⟨s.sh, applyT s.t m.Txn m.Yes, D⟩ m.Txn := fun h => by
      obtain ⟨w, hw⟩ := isP_iff.1 h
      have hw' : gW (applyT s.t m.Txn m.Yes) m.Txn.k = some w := hw
      rw [applyT_P I, if_pos rfl] at hw'; cases hw'
    unfold hearOut hearRec hearS
    simp only [if_neg hf', if_neg hk, if_pos k, if_neg hp']
    exact ⟨rfl, trivial, fun _ => trivial⟩
  · rw [h3]; exact ⟨rfl, h2, h3⟩
/-- what stays prepared -/
theorem hear_keeps {n : Nat} {s : PS} {m : Message} {cs : List Value} {x : Txn} {w : Work} (I : PInv n s) (hg : gW s.t x.k = some w) (h : ¬ (m.Kind = 3 ∧ m.Txn = x)) : gW (hearS s m cs).t x.k = some w := by
  rcases hear_cases s m with ⟨h1, h2, h3⟩ | ⟨hf, k, hd, hp, h1, h2, h3⟩ | ⟨hf, k, hd, hp, he, h1, h2, h3⟩ | ⟨hf, k, hd, hp, he, h1, h2, h3⟩ | ⟨hf, k, hp, h1, h2, h3⟩ | ⟨hf, k, hp, h1, h2, h3⟩
  all_goals rw [h3]
  · exact hg
  · exact hg
  · show gW (prepT s.t m.Txn m.Work cs) x.k = some w
    rw [gW_prep, if_neg]
    · exact hg
    · intro e
      rw [k_inj e] at hg
      exact hp (isP_iff.2 ⟨w, hg⟩)
  · exact hg
  · show gW (applyT s.t m.Txn m.Yes) x.k = some w
    rw [applyT_P I, if_neg]
    · exact hg
    · intro e
      exact h ⟨k, (k_inj e).symm⟩
  · exact hg
/-- the transactions applied with Yes that a call tells of -/
def yesL (l : List Rec) : List Txn := (l.filter fun r => decide (r.Kind = 3 ∧ r.Yes = true)).map (·.Txn)
theorem hearRec_len {s : PS} {m : Message} : (hearRec s m).length ≤ 1 := by
  rcases hear_cases s m with ⟨h1, h2, h3⟩ | ⟨hf, k, hd, hp, h1, h2, h3⟩ | ⟨hf, k, hd, hp, he, h1, h2, h3⟩ | ⟨hf, k, hd, hp, he, h1, h2, h3⟩ | ⟨hf, k, hp, h1, h2, h3⟩ | ⟨hf, k, hp, h1, h2, h3⟩ <;> rw [h2] <;> simp
theorem hearOut_len {s : PS} {m : Message} : (hearOut s m).length ≤ 1 := by
  rcases hear_cases s m with ⟨h1, h2, h3⟩ | ⟨hf, k, hd, hp, h1, h2, h3⟩ | ⟨hf, k, hd, hp, he, h1, h2, h3⟩ | ⟨hf, k, hd, hp, he, h1, h2, h3⟩ | ⟨hf, k, hp, h1, h2, h3⟩ | ⟨hf, k, hp, h1, h2, h3⟩ <;> rw [h1] <;> simp
/-- the list of what was told goes with the map of what is done -/
structure Told (s : PS) (l : List Txn) : Prop where
  mem : ∀ x, x ∈ l ↔ isD s x
  len : l.length = s.done.length
theorem told0 {sh : Int} : Told ⟨sh, ⟨[], [], []⟩, []⟩ [] := ⟨fun x => by simp [isD, mget], rfl⟩
theorem Told.hear {n : Nat} {s : PS} {m : Message} {cs : List Value} {l : List Txn} (I : PInv n s) (h : Told s l) : Told (hearS s m cs) (l ++ yesL (hearRec s m)) ∧ ∀ x ∈ yesL (hearRec s m), x ∉ l := by
  have same : ∀ {s' : PS}, s'.done = s.done → Told s' l := fun {s'} e => ⟨fun x => by unfold isD; rw [e]; exact h.mem x, by rw [e]; exact h.len⟩
  rcases hear_cases s m with ⟨h1, h2, h3⟩ | ⟨hf, k, hd, hp, h1, h2, h3⟩ | ⟨hf, k, hd, hp, he, h1, h2, h3⟩ | ⟨hf, k, hd, hp, he, h1, h2, h3⟩ | ⟨hf, k, hp, h1, h2, h3⟩ | ⟨hf, k, hp, h1, h2, h3⟩
  all_goals rw [h3, h2]
  · simpa [yesL] using h
  · simpa [yesL] using h
  · have e : yesL [recP m] = [] := rfl
    rw [e, List.append_nil]
    exact ⟨same rfl, fun x hx => by cases hx⟩
  · simpa [yesL] using h
  · cases hy : m.Yes with
    | false =>
      have e : yesL [recA m] = [] := by unfold yesL recA; rw [hy]; rfl
      rw [e, List.append_nil]
      exact ⟨same rfl, fun x hx => by cases hx⟩
    | true =>
      have e : yesL [recA m] = [m.Txn] := by unfold yesL recA; rw [hy]; rfl
      rw [e]
      obtain ⟨w, hw⟩ := isP_iff.1 hp
      have hno : mget m.Txn.k s.done = none := by
        cases hd : mget m.Txn.k s.done with
        | none => rfl
        | some v => have := I.ap _ _ hd; rw [hw] at this; cases this
      have hnl : m.Txn ∉ l := fun hx => by
        have := (h.mem _).1 hx
        unfold isD at this
        rw [hno] at this; cases this
      refine ⟨⟨fun x => ?_, ?_⟩, fun x hx => by rw [List.mem_singleton] at hx; rw [hx]; exact hnl⟩
      · unfold isD
        show _ ↔ (mget x.k (mset m.Txn.k (untilS s m.Txn) s.done)).isSome = true
        rw [mget_mset, List.mem_append, List.mem_singleton, h.mem x]
        unfold isD
        split
        · next e => simp [k_inj e]
        · next e =>
          constructor
          · rintro (hh | rfl)
            · exact hh
            · exact absurd rfl e
          · exact .inl
      · show (l ++ [m.Txn]).length = (mset m.Txn.k (untilS s m.Txn) s.done).length
        rw [mset_len, if_neg (mget_none.1 hno), List.length_append, h.len]; rfl
  · simpa [yesL] using h
/-- what is done is loaded one by one -/
def loadD (t : TS) : List (K3 × Int) → List PartDone → Option (List (K3 × Int))
  | m, [] => some m
  | m, d :: l => if (mget d.Txn.k m).isSome = true ∨ (mget d.Txn.k t.works).isSome = true then none else loadD t (mset d.Txn.k d.Until m) l
theorem loadD_app {t : TS} : ∀ {l l' : List PartDone} {m : List (K3 × Int)}, loadD t m (l ++ l') = (loadD t m l).bind fun m' => loadD t m' l'
  | [], l', m => rfl
  | d :: l, l', m => by
    rw [List.cons_append, loadD, loadD]
    split
    · rfl
    · exact loadD_app
theorem loadD_ok {t : TS} : ∀ {l : List PartDone} {m : List (K3 × Int)}, (l.map (·.Txn.k)).Nodup → (m.map (·.1)).Nodup → (∀ d ∈ l, mget d.Txn.k m = none ∧ ¬ (mget d.Txn.k t.works).isSome = true) →
    ∃ m', loadD t m l = some m' ∧ (m'.map (·.1)).Nodup ∧ (∀ d ∈ l, mget d.Txn.k m' = some d.Until) ∧ (∀ k, (∀ d ∈ l, d.Txn.k ≠ k) → mget k m' = mget k m) ∧ m'.length ≤ m.length + l.length
  | [], m, _, hm, _ => ⟨m, rfl, hm, fun d hd => (by cases hd), fun k _ => rfl, by simp⟩
  | d :: l, m, hn, hm, hh => by
    simp only [List.map_cons, List.nodup_cons] at hn
    obtain ⟨h1, h2⟩ := hh d (List.mem_cons_self ..)
    have hne : ∀ e ∈ l, e.Txn.k ≠ d.Txn.k := fun e he e1 => hn.1 (List.mem_map.2 ⟨e, he, e1⟩)
    obtain ⟨m', g1, g2, g3, g4, g5⟩ := loadD_ok (t := t) (l := l) (m := mset d.Txn.k d.Until m) hn.2 (mset_nodup hm) fun e he => ⟨by rw [mget_mset, if_neg (hne e he)]; exact (hh e (List.mem_cons_of_mem _ he)).1, (hh e (List.mem_cons_of_mem _ he)).2⟩
    refine ⟨m', ?_, g2, fun e he => ?_, fun k hk => ?_, ?_⟩
    · rw [loadD, if_neg (fun h => h.elim (fun h => by rw [h1] at h; cases h) h2)]; exact g1
    · rcases List.mem_cons.1 he with rfl | he
      · rw [g4 _ hne, mget_mset, if_pos rfl]
      · exact g3 e he
    · rw [g4 k fun e he => hk e (List.mem_cons_of_mem _ he), mget_mset, if_neg fun e => hk d (List.mem_cons_self ..) e.symm]
    · rw [mset_len] at g5
      simp only [List.length_cons]
      split at g5 <;> omega
theorem doneL_len {s : PS} : (doneL s).length = s.done.length := by unfold doneL; rw [List.length_map, sort3_len, List.length_map]
theorem doneL_mem {s : PS} (hn : (s.done.map (·.1)).Nodup) {d : PartDone} : d ∈ doneL s ↔ mget d.Txn.k s.done = some d.Until := by
  refine Iff.trans ?_ ((doneL_spec hn).mem (toR d))
  rw [List.mem_map]
  constructor
  · exact fun h => ⟨d, h, rfl⟩
  · rintro ⟨e, he, h⟩
    have : e = d := by
      obtain ⟨e1, e2⟩ := e
      obtain ⟨d1, d2⟩ := d
      simp only [toR, Convoyref15Done.mk.injEq] at h
      rw [h.1, h.2]
    rw [← this]; exact he
theorem doneL_nodup {s : PS} (hn : (s.done.map (·.1)).Nodup) : ((doneL s).map (·.Txn.k)).Nodup := by
  have h := (doneL_spec hn).rise
  rw [List.pairwise_map] at h
  rw [List.nodup_iff_pairwise_ne, List.pairwise_map]
  refine h.imp fun {a b} hab e => ?_
  have hab' : ltK a.Txn.k b.Txn.k := hab
  rw [e] at hab'
  exact ltK_irr hab'
/-- its own is loaded -/
theorem loadD_own {n n' : Nat} {s : PS} {t : TS} (I : PInv n s) (ht : ∀ k, gW t k = gW s.t k) : ∃ m', loadD t [] (doneL s) = some m' ∧ (m'.map (·.1)).Nodup ∧ (∀ k, mget k m' = mget k s.done) ∧ m'.length ≤ n := by
  obtain ⟨m', g1, g2, g3, g4, g5⟩ := loadD_ok (t := t) (l := doneL s) (m := []) (doneL_nodup I.dd) (by simp) fun d hd => ⟨rfl, fun h => by
    have h1 := I.ap _ _ ((doneL_mem I.dd).1 hd)
    have h2 := gW_some.1 h
    exact h2 ((ht _).trans h1)⟩
  refine ⟨m', g1, g2, fun k => ?_, ?_⟩
  · cases hk : mget k s.done with
    | none =>
      refine (g4 k fun d hd e => ?_).trans rfl
      have := (doneL_mem I.dd).1 hd
      rw [e, hk] at this; cases this
    | some v =>
      have := g3 ⟨toTx k, v⟩ ((doneL_mem I.dd).2 (by show mget (toTx k).k s.done = some v; rw [k_toTx]; exact hk))
      rwa [show (PartDone.mk (toTx k) v).Txn.k = k from k_toTx k] at this
  · have := I.dn; rw [doneL_len] at g5; simpa using Nat.le_trans g5 (by simpa using this)
/-- .. and once more what was there is refused -/
theorem loadD_twice {n : Nat} {s : PS} {t : TS} (I : PInv n s) (ht : ∀ k, gW t k = gW s.t k) (h : 0 < (doneL s).length) : loadD t [] (doneL s ++ [(doneL s)[0]]) = none := by
  obtain ⟨m', g1, g2, g3, g4⟩ := loadD_own (n' := n) (t := t) I ht
  rw [loadD_app, g1]
  show loadD t m' [(doneL s)[0]] = none
  rw [loadD, if_pos]
  left
  rw [g3, (doneL_mem I.dd).1 (List.getElem_mem h)]; rfl
theorem PSpec.ext {l : List Rec} {f g : K3 → Option Work} (h : PSpec l f) (h' : PSpec l g) (k : K3) : f k = g k := by
  have key : ∀ {f g : K3 → Option Work}, PSpec l f → PSpec l g → ∀ {k w}, f k = some w → g k = some w := fun {f g} h h' {k w} hf => by
    have hm := (h.mem (recW (toTx k) w)).2 ⟨w, by show f (toTx k).k = some w; rw [k_toTx]; exact hf, rfl⟩
    obtain ⟨w', h1, h2⟩ := (h'.mem _).1 hm
    have h1' : g (toTx k).k = some w' := h1
    rw [k_toTx] at h1'
    have : w = w' := congrArg Rec.Work h2
    rw [this]; exact h1'
  cases hf : f k with
  | some w => exact (key h h' hf).symm
  | none =>
    cases hg : g k with
    | none => rfl
    | some w => rw [key h' h hg] at hf; cases hf
/-- the table as the reference has it -/
theorem rel_self {n : Nat} {s : TS} (I : Inv n s) : Rel s ⟨holdsL s, prepL s⟩ := ⟨holdsL_spec I.hd, prepL_spec I.wd⟩
/-- a participant that goes on from what this one says -/
theorem PInv.loaded {n : Nat} {s : PS} {m : Part} {t' : TS} {d' : List (K3 × Int)} (I : PInv n s) (r : PRel s m) (hi : Inv n t') (hr : Rel t' m.T) (hn : (d'.map (·.1)).Nodup) (hd : ∀ k, mget k d' = mget k s.done) (hl : d'.length ≤ n) : PInv n ⟨s.sh, t', d'⟩ ∧ PRel ⟨s.sh, t', d'⟩ m := by
  have hw := hr.p.ext r.r.p
  refine ⟨⟨hi, hn, hl, fun x v hx => I.dv x v (by rw [← hd]; exact hx), fun x v hx => ?_, I.sh⟩, ⟨r.sh, hr, r.d.congr fun k => (hd k).symm⟩⟩
  show gW t' x = none
  rw [hw]
  exact I.ap x v (by rw [← hd]; exact hx)
end Go.Proofs.YtjgjcakeimkkdaaGreatDoor

set_option linter.unusedVariables false
set_option linter.unusedSimpArgs false
namespace Go.Proofs.YtjgjcakeimkkdaaGreatDoor
open Go Go.Sx Go.Proofs
theorem rd_tx {H : Heap} {b o : Nat} {q : RD} (hr : HRow H b o q.cv) : HRow H b o [I q.Txn.Node, I q.Txn.Life, I q.Txn.Count] := HRow.take (k := 3) hr
instance doneRDec {m : Part} {x : Txn} : Decidable (doneR m x) := by unfold doneR; infer_instance
set_option maxHeartbeats 4000000 in
theorem rIs_spec {W0 : World} {H : Heap} {c : List Value} {m : Part} {x : Txn} (h0 : rPart H c m) :
    Ct Tryz.prog 44 #[.agg c.toArray, .agg x.cv.toArray] W0 H [] (fun r H' B => r = .bool (decide (doneR m x)) ∧ B = [] ∧ H' = H) := by
  refine Ct.go (vs := [.agg c.toArray, .agg x.cv.toArray]) fun R => ?_
  obtain ⟨s1, s2, s3, rfl, hsh, hs1, hs2, hs3⟩ := h0
  obtain ⟨b1, c1, rfl, hc1, hd1⟩ := hs1.1.shape
  obtain ⟨b2, c2, rfl, hc2, hd2⟩ := hs2.1.shape
  obtain ⟨b3, c3, rfl, hc3, hd3⟩ := hs3.1.shape
  obtain ⟨sh, ⟨hl, pr⟩, dn⟩ := m
  obtain ⟨x1, x2, x3⟩ := x
  unfold doneR
  dsimp only at hsh hs1 hs2 hs3 hc1 hc2 hc3
  dsimp only
  refine walk ?_
  refine ops_box rfl rfl fun p2 _ => ?_
  refine ops_box rfl rfl fun p3 _ => ?_
  refine walk ?_
  refine ex_loop (σ := Nat) (fun j => j ≤ dn.length ∧ ∀ q ∈ dn.take j, q.Txn ≠ ⟨x1, x2, x3⟩) (fun j => [(2, .pointer (some ⟨p2, 0, none⟩)), (3, .pointer (some ⟨p3, 0, none⟩)), (5, I j)]) (fun _ => H) (fun _ => row p2 72 [I sh, .slice b1 hl.length c1, .slice b2 pr.length c2, .slice b3 dn.length c3] :: row p3 29 [I x1, I x2, I x3] :: R) (fun j => dn.length - j) 0 ⟨Nat.zero_le _, by simp⟩ fun j ⟨hj0, hj⟩ K hL => ?_
  refine walk ?_
  refine ex_if rfl (fun hk => ?_) (fun hk => ?_)
  · have hk1 : j < dn.length := by omega
    have ht := List.take_succ_eq_append_getElem hk1
    refine walk ?_
    refine ops_ixp rfl rfl hs3.1 hk1 fun b o cc hr hc => ?_
    obtain ⟨rfl, hc⟩ := hc
    have hrt := rd_tx hr
    obtain ⟨ya, yb, yc, hy⟩ : ∃ ya yb yc, dn[j].Txn = ⟨ya, yb, yc⟩ := ⟨_, _, _, rfl⟩
    rw [hy] at hrt
    change HRow H b o [I ya, I yb, I yc] at hrt
    refine walk ?_
    refine ops_ldNH rfl rfl hrt rfl ?_
    refine walk ?_
    refine ex_if rfl (fun hq => ?_) (fun hq => ?_)
    · refine walk ?_
      refine fin0 ?_
      obtain ⟨rfl, rfl, rfl⟩ := hq
      exact ⟨congrArg Value.bool (decide_eq_true ⟨_, List.getElem_mem hk1, hy⟩).symm, rfl, rfl⟩
    · refine walk ?_
      refine out_next hL (j + 1) ⟨by omega, fun q hm => ?_⟩
      rw [ht, List.mem_append, List.mem_singleton] at hm
      rcases hm with hm | rfl
      · exact hj q hm
      · rw [hy]
        rintro e
        exact hq (by simpa using tx_ext.1 e)
  · clear hL
    obtain rfl : j = dn.length := by omega
    rw [List.take_length] at hj
    refine walk ?_
    refine fin0 ?_
    exact ⟨congrArg Value.bool (decide_eq_false (fun ⟨d, h1, h2⟩ => hj d h1 h2)).symm, rfl, rfl⟩
set_option maxHeartbeats 4000000 in
theorem rUntil_spec {W0 : World} {H : Heap} {cw : List Value} {w : Work} (hw : rWork H cw w) (hwn : w.ks.length * 16 ≤ cap47) :
    Ct Tryz.prog 48 #[.agg cw.toArray] W0 H [] (fun r H' B => r = I (untilL 0 w.ks) ∧ B = []) := by
  refine Ct.go (vs := [.agg cw.toArray]) fun R => ?_
  have hks := keys_spec (W0 := W0) hw hwn
  obtain ⟨s1, s2, rfl, hrob, hs1, hs2⟩ := hw
  obtain ⟨b1, c1, rfl, hc1, hd1⟩ := hs1.1.shape
  obtain ⟨b2, c2, rfl, hc2, hd2⟩ := hs2.1.shape
  refine walk ?_
  refine ops_box rfl rfl fun p1 _ => ?_
  refine walk ?_
  refine ops_call rfl rfl hks fun r1 H1 B hl1 ⟨eB, eH⟩ => ?_
  subst eB eH
  refine ops_freeze r1 fun H2 hl2 hsk => ?_
  generalize w.ks = ks at *
  generalize hT : untilL 0 ks = T
  obtain ⟨bk, ck, rfl, hck, hdk⟩ := hsk.1.shape
  refine walk ?_
  refine ex_loop (σ := Nat × Int) (fun u => u.1 ≤ ks.length ∧ untilL u.2 (ks.drop u.1) = T ∧ fits u.2) (fun u => [(3, .slice bk ks.length ck), (4, I u.2), (5, I u.1)]) (fun _ => H2) (fun _ => R) (fun u => ks.length - u.1) (0, 0) ⟨Nat.zero_le _, hT, fits0⟩ fun ⟨i, a2⟩ ⟨hi0, hF2, hfa2⟩ K2 hL2 => ?_
  simp only at hi0 hF2 hfa2
  dsimp only
  refine walk ?_
  refine ex_if rfl (fun hi => ?_) (fun hi => ?_)
  · have hi1 : i < ks.length := by omega
    rw [List.drop_eq_getElem_cons hi1] at hF2
    unfold untilL at hF2
    have hrd := fun (hz : ks[i].data.toList.length ≤ cap47) => rRead_spec (W0 := W0) (H := H2) (l := ks[i].data.toList) hz
    rw [sb_self] at hrd
    refine walk ?_
    refine ops_ixp rfl rfl hsk.1 hi1 fun b o c hr hc => ?_
    obtain ⟨rfl, hsz⟩ := hc
    refine walk ?_
    refine ops_call rfl rfl (hrd (by rw [← Lib.size_eq]; exact hsz)) fun r6 H6 B hl6 ⟨hrr, eB, eH⟩ => ?_
    subst eB eH
    obtain ⟨ka, kb, kt, ok, rfl, hkk⟩ := hrr.form
    refine walk ?_
    refine ops_alloc rfl fun p10 _ => ?_
    refine walk ?_
    rcases hkk with ⟨rfl, hkk⟩ | ⟨rfl, hno, rfl, rfl, rfl⟩
    · have ht := tickK_yes hkk
      rw [ht, if_pos (show (some kt).isSome = true from rfl), show (some kt).getD 0 = kt from rfl] at hF2
      have hft : fits kt := by have := tickK_fits (k := ks[i]); rw [ht] at this; exact this
      rw [show (!true) = false from rfl]
      refine walk ?_
      exact out_next hL2 (i + 1, max a2 kt) ⟨by simp only; omega, hF2, by simp only; unfold fits at *; omega⟩
    · have ht := tickK_no hno
      rw [ht, if_neg (by simp)] at hF2
      rw [show (!false) = true from rfl]
      refine walk ?_
      rw [← hF2]
      refine fin0 ?_
      exact ⟨rfl, rfl⟩
  clear hL2
  obtain rfl : i = ks.length := by omega
  rw [List.drop_length] at hF2
  unfold untilL at hF2
  refine walk ?_
  rw [← hF2]
  refine fin0 ?_
  exact ⟨rfl, rfl⟩
theorem putL_split {d : RD} : ∀ {l : List RD} {i : Nat}, i ≤ l.length → (∀ a ∈ l.take i, ltK a.Txn.k d.Txn.k) → (∀ h : i < l.length, ¬ ltK l[i].Txn.k d.Txn.k) → putL d l = l.take i ++ d :: l.drop i
  | [], i, hi, _, _ => by simp [putL]
  | a :: l, 0, hi, h1, h2 => by
    unfold putL
    rw [if_neg (show ¬ ltK a.Txn.k d.Txn.k from h2 (by simp))]
    rfl
  | a :: l, i + 1, hi, h1, h2 => by
    unfold putL
    rw [if_pos (h1 a (by simp)), putL_split (i := i) (by simpa using hi) (fun b hb => h1 b (by simp [hb])) (fun h => h2 (Nat.succ_lt_succ h))]
    rfl
theorem putL_len {d : RD} : ∀ {l : List RD}, (putL d l).length = l.length + 1
  | [] => rfl
  | a :: l => by unfold putL; split <;> simp [putL_len]
end Go.Proofs.YtjgjcakeimkkdaaGreatDoor
