/- Loading: the table and the reference. No program in sight. -/
import Derived.Test.YtpphdbnifbjfmaaGreatDoorJKD
import Derived.Test.YtpphdbnifbjfmaaGreatDoorJLS
import Derived.Test.YtpphdbnifbjfmaaGreatDoorJLU
import Derived.Test.YtpphdbnifbjfmaaGreatDoorJTB
set_option linter.unusedVariables false
set_option linter.unusedSimpArgs false
namespace Go.Proofs.YtpphdbnifbjfmaaGreatDoor
open Go Go.Sx Go.Proofs
open Classical in
noncomputable def tickK (k : ByteArray) : Option Int := if h : ∃ q, isKey k.data.toList q then some (Classical.choose h).2.2 else none
theorem tickK_yes {k : ByteArray} {a b t : Int} (h : isKey k.data.toList (a, b, t)) : tickK k = some t := by
  unfold tickK
  have hex : ∃ q, isKey k.data.toList q := ⟨_, h⟩
  rw [dif_pos hex]
  have := (Classical.choose_spec hex).uniq h
  rw [this]
theorem tickK_no {k : ByteArray} (h : ∀ q, ¬ isKey k.data.toList q) : tickK k = none := by
  unfold tickK
  exact dif_neg fun ⟨q, hq⟩ => h q hq
abbrev maxTick : Int := 1073741824
noncomputable def untilL : Int → List ByteArray → Int
  | a, [] => a
  | a, k :: ks => if (tickK k).isSome = true then untilL (max a ((tickK k).getD 0)) ks else maxTick
theorem tickK_fits {k : ByteArray} : fits ((tickK k).getD 0) := by
  by_cases h : ∃ q, isKey k.data.toList q
  · obtain ⟨⟨a, b, t⟩, hq⟩ := h
    rw [tickK_yes hq]
    have := hq
    simp only [isKey, tickI] at this
    unfold fits
    simp only [Option.getD_some]
    omega
  · rw [tickK_no fun q hq => h ⟨q, hq⟩]; exact fits0
theorem untilL_fits : ∀ {ks : List ByteArray} {a : Int}, fits a → fits (untilL a ks)
  | [], a, h => h
  | k :: ks, a, h => by
    unfold untilL
    split
    · refine untilL_fits ?_
      have := tickK_fits (k := k)
      unfold fits at *; omega
    · unfold fits maxTick; omega
structure PS where
  sh : Int
  t : TS
  done : List (K3 × Int)
def forMe (s : PS) (m : Message) : Prop := m.To = s.sh ∧ m.From = m.Txn.Node
instance {s : PS} {m : Message} : Decidable (forMe s m) := by unfold forMe; infer_instance
def isP (s : PS) (x : Txn) : Prop := (mget x.k s.t.works).isSome = true
instance {s : PS} {x : Txn} : Decidable (isP s x) := by unfold isP; infer_instance
def isD (s : PS) (x : Txn) : Prop := (mget x.k s.done).isSome = true
instance {s : PS} {x : Txn} : Decidable (isD s x) := by unfold isD; infer_instance
theorem isP_iff {s : PS} {x : Txn} : isP s x ↔ ∃ w, gW s.t x.k = some w := by
  unfold isP gW
  cases mget x.k s.t.works <;> simp
noncomputable def untilS (s : PS) (x : Txn) : Int := if isP s x then untilL 0 ((mget x.k s.t.works).getD zCW).2.ks else 0
theorem untilS_fits {s : PS} {x : Txn} : fits (untilS s x) := by
  unfold untilS; split
  · exact untilL_fits fits0
  · exact fits0
def voteM (s : PS) (m : Message) (y : Bool) : Message := { zMessage with From := s.sh, To := m.From, Kind := 2, Txn := m.Txn, Yes := y }
def ackM (s : PS) (m : Message) : Message := { zMessage with From := s.sh, To := m.From, Kind := 4, Txn := m.Txn }
def askM (s : PS) (x : Txn) : Message := { zMessage with From := s.sh, To := x.Node, Kind := 5, Txn := x }
def recP (m : Message) : Rec := ⟨2, m.Txn, m.Work, false, []⟩
def recA (m : Message) : Rec := ⟨3, m.Txn, zWork, m.Yes, []⟩
def hearOut (s : PS) (m : Message) : List Message :=
  if ¬ forMe s m then [] else
  if m.Kind = 1 then (if isD s m.Txn then [] else [voteM s m (decide (isP s m.Txn ∨ prepE s.t m.Txn m.Work = 0))])
  else if m.Kind = 3 then [ackM s m] else []
def hearRec (s : PS) (m : Message) : List Rec :=
  if ¬ forMe s m then [] else
  if m.Kind = 1 then (if isD s m.Txn then [] else if isP s m.Txn then [] else if prepE s.t m.Txn m.Work = 0 then [recP m] else [])
  else if m.Kind = 3 then (if isP s m.Txn then [recA m] else []) else []
noncomputable def hearS (s : PS) (m : Message) (cs : List Value) : PS :=
  if ¬ forMe s m then s else
  if m.Kind = 1 then (if isD s m.Txn then s else if isP s m.Txn then s else if prepE s.t m.Txn m.Work = 0 then ⟨s.sh, prepT s.t m.Txn m.Work cs, s.done⟩ else s)
  else if m.Kind = 3 then (if isP s m.Txn then ⟨s.sh, applyT s.t m.Txn m.Yes, if m.Yes = true then mset m.Txn.k (untilS s m.Txn) s.done else s.done⟩ else s) else s
structure OkM (m : Message) : Prop where
  w : OkW m.Work
  x : okX m.Txn.k
structure PInv (n : Nat) (s : PS) : Prop where
  t : Inv n s.t
  dd : (s.done.map (·.1)).Nodup
  dn : s.done.length ≤ n
  dv : ∀ x v, mget x s.done = some v → okX x ∧ fits v
  ap : ∀ x v, mget x s.done = some v → gW s.t x = none
  sh : fits s.sh
theorem PInv.more {n n' : Nat} {s : PS} (h : PInv n s) (hn : n ≤ n') : PInv n' s := { h with t := h.t.more hn, dn := Nat.le_trans h.dn hn }
theorem pinv0 {sh : Int} (h : fits sh) : PInv 0 ⟨sh, ⟨[], [], []⟩, []⟩ := ⟨inv0, by simp, by simp, fun x v h => (by cases h), fun x v h => (by cases h), h⟩
theorem PInv.hear {n : Nat} {s : PS} {m : Message} {cs : List Value} (h : PInv n s) (hm : OkM m) : PInv (n + 1) (hearS s m cs) := by
  have h0 := h.more (Nat.le_succ n)
  unfold hearS
  split
  · exact h0
  split
  · split
    · exact h0
    next hd =>
    split
    · exact h0
    next hp =>
    split
    · next he =>
      refine ⟨h.t.prep hm.w hm.x he, h.dd, h0.dn, h.dv, fun x v hx => ?_, h.sh⟩
      show gW (prepT s.t m.Txn m.Work cs) x = none
      rw [gW_prep, if_neg]
      · exact h.ap x v hx
      · rintro rfl
        apply hd
        unfold isD
        have hx' : mget m.Txn.k s.done = some v := hx
        rw [hx']; rfl
    · exact h0
  split
  · split
    · next hp =>
      obtain ⟨w, hw⟩ := isP_iff.1 hp
      have ht := h.t.apply (yes := m.Yes) hw
      have hge := fun k => gW_apply (s := s.t) h.t.wd (x := m.Txn) (w := w) (yes := m.Yes) k
      have e : applyT s.t m.Txn m.Yes = applyW s.t m.Txn m.Yes w := by
        unfold applyT
        unfold gW at hw
        have hp2 : (mget m.Txn.k s.t.works).isSome = true := hp
        rw [if_pos hp2]
        cases hq : mget m.Txn.k s.t.works with
        | none => rw [hq] at hw; cases hw
        | some q => rw [hq] at hw; cases hw; rfl
      rw [e]
      have hap : ∀ x v, mget x s.done = some v → gW (applyW s.t m.Txn m.Yes w) x = none := fun x v hx => by
        rw [hge]; split
        · rfl
        · exact h.ap x v hx
      cases hy : m.Yes with
      | false =>
        rw [hy] at ht hap
        exact ⟨ht, h.dd, h0.dn, h.dv, hap, h.sh⟩
      | true =>
        rw [hy] at ht hap hge
        refine ⟨ht, mset_nodup h.dd, ?_, fun x v hx => ?_, fun x v hx => ?_, h.sh⟩
        · show (mset m.Txn.k (untilS s m.Txn) s.done).length ≤ _
          rw [mset_len]; have := h.dn; split <;> omega
        · have hx' : mget x (mset m.Txn.k (untilS s m.Txn) s.done) = some v := hx
          rw [mget_mset] at hx'
          split at hx'
          · next e => subst e; cases hx'; exact ⟨hm.x, untilS_fits⟩
          · exact h.dv x v hx'
        · have hx' : mget x (mset m.Txn.k (untilS s m.Txn) s.done) = some v := hx
          rw [mget_mset] at hx'
          show gW (applyW s.t m.Txn true w) x = none
          rw [hge]
          split at hx'
          · next e => rw [if_pos e]
          · next e => rw [if_neg e]; exact h.ap x v hx'
    · exact h0
  · exact h0
def doneOf (s : PS) (k : K3) : PartDone := ⟨toTx k, (mget k s.done).getD 0⟩
def doneL (s : PS) : List PartDone := (sort3 (s.done.map (·.1))).map (doneOf s)
def ka : ByteArray := ⟨#[97]⟩
def kb : ByteArray := ⟨#[98]⟩
def xa : Txn := ⟨0, 0, 1⟩
theorem Inv.recs {n : Nat} {s : TS} (h : Inv n s) {q : Rec} (hq : q ∈ prepL s) : gW s q.Txn.k = some q.Work := by
  obtain ⟨w, h1, h2⟩ := ((prepL_spec h.wd).mem q).1 hq
  have : w = q.Work := by rw [h2]; rfl
  rw [← this]; exact h1
theorem OkW.ks_len {w : Work} (h : OkW w) : w.ks.length ≤ 80 := by
  have := h.take; have := h.drop
  simp only [Work.ks, List.length_append]; omega
theorem applyT_eq {s : TS} {x : Txn} {yes : Bool} : applyT s x yes = match gW s x.k with | some w => applyW s x yes w | none => s := by
  unfold applyT gW
  cases mget x.k s.works with
  | none => rfl
  | some v => rfl
theorem Inv.ks_ok {n : Nat} {s : TS} (h : Inv n s) (x : K3) : ((mget x s.works).getD zCW).2.ks.length * 16 ≤ cap47 := by
  cases hm : mget x s.works with
  | none => decide
  | some v =>
    have hg : gW s x = some v.2 := by unfold gW; rw [hm]; rfl
    have := (h.ww x v.2 hg).1.1.ks_len
    simp only [Option.getD_some, cap47]; omega
end Go.Proofs.YtpphdbnifbjfmaaGreatDoor
namespace Go.Proofs.YtpphdbnifbjfmaaGreatDoor
open Go Go.Sx Go.Proofs
open Go Go.Sx Go.Proofs
open Go Go.Sx Go.Proofs
open Go Go.Sx Go.Proofs
end Go.Proofs.YtpphdbnifbjfmaaGreatDoor
namespace Go.Proofs.YtpphdbnifbjfmaaGreatDoor
open Go Go.Sx Go.Proofs
structure Rel (s : TS) (m : Table) : Prop where
  h : HSpec m.Held (fun k => mget k s.held)
  p : PSpec m.Prep (gW s)
theorem Rel.held {n : Nat} {s : TS} {m : Table} (I : Inv n s) (r : Rel s m) : holdsL s = m.Held := (holdsL_spec I.hd).uniq r.h
theorem Rel.prep {n : Nat} {s : TS} {m : Table} (I : Inv n s) (r : Rel s m) : prepL s = m.Prep := (prepL_spec I.wd).uniq r.p
theorem gW_some {s : TS} {k : K3} : (mget k s.works).isSome = true ↔ gW s k ≠ none := by
  unfold gW; cases mget k s.works <;> simp
abbrev RD := Convoyref15Done
structure DSpec (l : List RD) (f : K3 → Option Int) : Prop where
  rise : l.Pairwise fun a b => ltK a.Txn.k b.Txn.k
  mem : ∀ d, d ∈ l ↔ f d.Txn.k = some d.Until
theorem DSpec.congr {l : List RD} {f g : K3 → Option Int} (h : DSpec l f) (e : ∀ k, f k = g k) : DSpec l g := by
  obtain rfl : f = g := funext e
  exact h
def toR (d : PartDone) : RD := ⟨d.Txn, d.Until⟩
theorem doneL_spec {s : PS} (hn : (s.done.map (·.1)).Nodup) : DSpec ((doneL s).map toR) (fun k => mget k s.done) := by
  unfold doneL
  rw [List.map_map]
  refine ⟨?_, fun d => ?_⟩
  · rw [List.pairwise_map]
    exact (sort3_rise hn).imp fun h => h
  · rw [List.mem_map]
    constructor
    · rintro ⟨k, hk, rfl⟩
      obtain ⟨v, hv⟩ := mget_key.1 (mem_sort3.1 hk)
      show mget (toTx k).k s.done = some ((mget k s.done).getD 0)
      rw [k_toTx, hv]; rfl
    · intro hg
      refine ⟨d.Txn.k, mem_sort3.2 (mget_key.2 ⟨_, hg⟩), ?_⟩
      show toR (doneOf s d.Txn.k) = d
      simp only [doneOf, toR, hg, Option.getD_some, toTx_k]
theorem DSpec.none {l : List RD} {f : K3 → Option Int} (h : DSpec l f) {x : Txn} (hx : ∀ d ∈ l, d.Txn ≠ x) : f x.k = none := by
  cases hf : f x.k with
  | none => rfl
  | some v => exact absurd rfl (hx ⟨x, v⟩ ((h.mem _).2 hf))
theorem DSpec.some {l : List RD} {f : K3 → Option Int} (h : DSpec l f) {d : RD} (hd : d ∈ l) : f d.Txn.k = some d.Until := (h.mem d).1 hd
def putL (d : RD) : List RD → List RD
  | [] => [d]
  | a :: l => if ltK a.Txn.k d.Txn.k then a :: putL d l else d :: a :: l
theorem mem_putL {d e : RD} : ∀ {l : List RD}, e ∈ putL d l ↔ e = d ∨ e ∈ l
  | [] => by simp [putL]
  | a :: l => by
    unfold putL
    split
    · rw [List.mem_cons, mem_putL, List.mem_cons]
      constructor
      · rintro (h | h | h)
        · exact .inr (.inl h)
        · exact .inl h
        · exact .inr (.inr h)
      · rintro (h | h | h)
        · exact .inr (.inl h)
        · exact .inl h
        · exact .inr (.inr h)
    · simp
theorem putL_rise {d : RD} : ∀ {l : List RD}, l.Pairwise (fun a b => ltK a.Txn.k b.Txn.k) → (∀ a ∈ l, a.Txn.k ≠ d.Txn.k) → (putL d l).Pairwise fun a b => ltK a.Txn.k b.Txn.k
  | [], _, _ => by simp [putL]
  | a :: l, hr, hn => by
    rw [List.pairwise_cons] at hr
    unfold putL
    split
    · next h =>
      rw [List.pairwise_cons]
      refine ⟨fun b hb => ?_, putL_rise hr.2 fun b hb => hn b (List.mem_cons_of_mem _ hb)⟩
      rcases mem_putL.1 hb with rfl | hb
      · exact h
      · exact hr.1 b hb
    · next h =>
      have h0 : ltK d.Txn.k a.Txn.k := Classical.byContradiction fun hc => hn a (List.mem_cons_self ..) (ltK_tot h hc)
      rw [List.pairwise_cons, List.pairwise_cons]
      refine ⟨fun b hb => ?_, hr⟩
      rcases List.mem_cons.1 hb with rfl | hb
      · exact h0
      · exact ltK_trans h0 (hr.1 b hb)
theorem DSpec.put {l : List RD} {f : K3 → Option Int} (h : DSpec l f) {d : RD} (hd : f d.Txn.k = Option.none) : DSpec (putL d l) (fun k => if k = d.Txn.k then Option.some d.Until else f k) := by
  have hne : ∀ a ∈ l, a.Txn.k ≠ d.Txn.k := fun a ha e => by
    have := h.some ha
    rw [e, hd] at this; cases this
  refine ⟨putL_rise h.rise hne, fun e => ?_⟩
  rw [mem_putL, h.mem]
  by_cases he : e.Txn.k = d.Txn.k
  · simp only [he, if_true, Option.some.injEq]
    constructor
    · rintro (rfl | hf)
      · rfl
      · rw [hd] at hf; cases hf
    · intro hu
      left
      obtain ⟨et, eu⟩ := e
      obtain ⟨dt, du⟩ := d
      have := k_inj he
      simp only at this hu
      rw [this, hu]
  · simp only [he, if_false]
    constructor
    · rintro (rfl | hf)
      · exact absurd rfl he
      · exact hf
    · exact .inr
structure PRel (s : PS) (m : Part) : Prop where
  sh : m.Shard = s.sh
  r : Rel s.t m.T
  d : DSpec m.Done (fun k => mget k s.done)
theorem rankE_le {e : Int} : rankE e ≤ 3 := by
  unfold rankE
  by_cases h1 : e = 2
  · rw [if_pos h1]; omega
  · rw [if_neg h1]
    by_cases h2 : e = 1
    · rw [if_pos h2]; omega
    · rw [if_neg h2]; by_cases h3 : e = 140
      · rw [if_pos h3]; omega
      · rw [if_neg h3]; omega
theorem rankE_3 {e : Int} : rankE e = 3 ↔ e = 2 := by
  unfold rankE
  by_cases h1 : e = 2
  · rw [if_pos h1]; exact ⟨fun _ => h1, fun _ => rfl⟩
  · rw [if_neg h1]
    refine ⟨fun h => ?_, fun h => absurd h h1⟩
    by_cases h2 : e = 1
    · rw [if_pos h2] at h; omega
    · rw [if_neg h2] at h; by_cases h3 : e = 140
      · rw [if_pos h3] at h; omega
      · rw [if_neg h3] at h; omega
theorem worse_2 {a : Int} : worse a 2 = 2 := by
  unfold worse
  split
  · rfl
  · next h =>
    have h1 : rankE 2 = 3 := rfl
    have := rankE_le (e := a)
    exact rankE_3.1 (by omega)
theorem loadH_err : ∀ {l : List Hold} {m : List (ByteArray × Int)} {a : Int}, (loadH m a l).2 = if (l.map (·.Key)).Nodup ∧ ∀ k ∈ l.map (·.Key), mget k m = none then a else 2
  | [], m, a => by simp [loadH]
  | h :: l, m, a => by
    rw [loadH, loadH_err]
    rw [worse_2]
    have hm : ∀ k, mget k (mset h.Key h.Robot m) = if k = h.Key then some h.Robot else mget k m := fun k => mget_mset h.Key k h.Robot m
    by_cases hin : (mget h.Key m).isSome = true
    · have hne : mget h.Key m ≠ none := by intro e; rw [e] at hin; cases hin
      have hno : ¬ ((((h :: l).map (·.Key)).Nodup) ∧ ∀ k ∈ (h :: l).map (·.Key), mget k m = none) := fun hh => hne (hh.2 h.Key (by simp))
      rw [if_neg hno, if_pos hin]
      split <;> rfl
    · have hnone : mget h.Key m = none := by cases hg : mget h.Key m with | none => rfl | some v => rw [hg] at hin; exact absurd rfl hin
      rw [if_neg hin]
      have hiff : ((l.map (·.Key)).Nodup ∧ ∀ k ∈ l.map (·.Key), mget k (mset h.Key h.Robot m) = none) ↔ (((h :: l).map (·.Key)).Nodup ∧ ∀ k ∈ (h :: l).map (·.Key), mget k m = none) := by
        simp only [List.map_cons, List.nodup_cons, List.mem_cons]
        constructor
        · rintro ⟨h1, h2⟩
          refine ⟨⟨fun hk => ?_, h1⟩, ?_⟩
          · have := h2 _ hk; rw [hm, if_pos rfl] at this; cases this
          · rintro k (rfl | hk)
            · exact hnone
            · have := h2 k hk; rw [hm] at this; split at this
              · cases this
              · exact this
        · rintro ⟨⟨h1, h2⟩, h3⟩
          refine ⟨h2, fun k hk => ?_⟩
          rw [hm, if_neg (fun e => h1 (by rw [← e]; exact hk))]
          exact h3 k (.inr hk)
      by_cases hq : (l.map (·.Key)).Nodup ∧ ∀ k ∈ l.map (·.Key), mget k (mset h.Key h.Robot m) = none
      · rw [if_pos hq, if_pos (hiff.1 hq)]
      · rw [if_neg hq, if_neg fun h => hq (hiff.2 h)]
theorem loadH_spec : ∀ {l acc : List Hold} {m : List (ByteArray × Int)} {a : Int}, HSpec acc (fun k => mget k m) → (m.map (·.1)).Nodup → HSpec (l.foldl (fun acc h => holdL h.Key h.Robot false acc) acc) (fun k => mget k (loadH m a l).1) ∧ ((loadH m a l).1.map (·.1)).Nodup ∧ (loadH m a l).1.length ≤ m.length + l.length
  | [], acc, m, a, h, hn => ⟨h, hn, by simp [loadH]⟩
  | x :: l, acc, m, a, h, hn => by
    rw [List.foldl_cons, loadH]
    obtain ⟨h1, h2, h3⟩ := loadH_spec (l := l) (acc := holdL x.Key x.Robot false acc) (m := mset x.Key x.Robot m) (a := if (mget x.Key m).isSome = true then worse a 2 else a) ((h.hold x.Key x.Robot false).congr fun k' => by rw [mget_mset x.Key k']; by_cases e : k' = x.Key <;> simp [e]) (mset_nodup hn)
    refine ⟨h1, h2, ?_⟩
    have h4 : (mset x.Key x.Robot m).length ≤ m.length + 1 := by rw [mset_len]; split <;> omega
    simp only [List.length_cons]; omega
theorem loadH_mem : ∀ {l : List Hold} {m : List (ByteArray × Int)} {a : Int} {k : ByteArray} {r : Int}, (l.map (·.Key)).Nodup → (mget k (loadH m a l).1 = some r ↔ (⟨k, r⟩ : Hold) ∈ l ∨ (k ∉ l.map (·.Key) ∧ mget k m = some r))
  | [], m, a, k, r, _ => by simp [loadH]
  | x :: l, m, a, k, r, hn => by
    rw [List.map_cons, List.nodup_cons] at hn
    rw [loadH, loadH_mem hn.2, mget_mset x.Key k]
    obtain ⟨xk, xr⟩ := x
    simp only [List.map_cons, List.mem_cons, Hold.mk.injEq]
    by_cases e : k = xk
    · subst e
      have hk := hn.1
      simp only at hk
      have hx : (⟨k, r⟩ : Hold) ∉ l := fun hh => hk (List.mem_map.2 ⟨_, hh, rfl⟩)
      simp [hk, hx, eq_comm]
    · simp [e]
def okP (q : Rec) : Prop := OkW q.Work ∧ okX q.Txn.k
theorem holdF_inv {holds : List Hold} {n : Nat} (hk : ∀ h ∈ holds, h.Key.size ≤ cap47 ∧ fits h.Robot) (hl : holds.length ≤ 40 * n) : Inv n (holdF holds) := by
  obtain ⟨h1, h2, h3⟩ := loadH_spec (l := holds) (acc := []) (m := []) (a := 0) ⟨by simp, fun h => by simp [mget]⟩ (by simp)
  refine ⟨h2, by simp [holdF], by simp [holdF], fun k r hm => ?_, ?_, by simp [holdF], fun x w h => ?_, fun k x => ⟨fun h => ?_, fun ⟨w, h, _⟩ => ?_⟩, fun x w h => ?_⟩
  · have : ∀ {l : List Hold} {m : List (ByteArray × Int)} {a : Int}, (∀ h ∈ l, h.Key.size ≤ cap47 ∧ fits h.Robot) → (∀ k r, mget k m = some r → k.size ≤ cap47 ∧ fits r) → ∀ k r, mget k (loadH m a l).1 = some r → k.size ≤ cap47 ∧ fits r := by
      intro l
      induction l with
      | nil => intro m a _ h k r hk; exact h k r hk
      | cons x l ih =>
        intro m a hx hm k r hk
        rw [loadH] at hk
        refine ih (fun h hh => hx h (by simp [hh])) (fun k' r' h' => ?_) k r hk
        rw [mget_mset x.Key k'] at h'
        split at h'
        · next e => cases h'; subst e; exact hx x (by simp)
        · exact hm k' r' h'
    exact this hk (fun k r h => by cases h) k r hm
  · show (loadH [] 0 holds).1.length ≤ _
    simp only [List.length_nil] at h3
    omega
  · simp [gW, holdF, mget] at h
  · simp [holdF, mget] at h
  · simp [gW, holdF, mget] at h
  · simp [gW, holdF, mget] at h
theorem prepE_none {s : TS} {x : Txn} {w : Work} (h : gW s x.k = none) : prepE s x w = if dupT w.ks then 1 else if wayT s w 0 w.ks = true then 0 else 140 := by
  have : ¬ (mget x.k s.works).isSome = true := by rw [gW_some, h]; simp
  exact if_neg this
theorem step_none {s : TS} {q : Rec} {l : List Rec} {cs : List Value} (hnd : ((q :: l).map (·.Txn.k)).Nodup) (h : ∀ r ∈ q :: l, gW s r.Txn.k = none) : ∀ r ∈ l, gW (if prepE s q.Txn q.Work = 0 then prepT s q.Txn q.Work cs else s) r.Txn.k = none := fun r hr => by
  rw [List.map_cons, List.nodup_cons] at hnd
  split
  · rw [gW_prep, if_neg fun e => hnd.1 (List.mem_map.2 ⟨r, hr, e⟩)]
    exact h r (by simp [hr])
  · exact h r (by simp [hr])
theorem loadP_all {s s' : TS} {l : List Rec} {a a' : Int} (h : LoadP s a l s' a') : ∀ {n : Nat}, a = 0 → Inv n s → (l.map (·.Txn.k)).Nodup → (∀ q ∈ l, gW s q.Txn.k = none) → (∀ q ∈ l, okP q ∧ q.Work.ks.Nodup) → (∀ q ∈ l, ∀ k ∈ q.Work.ks, mget k s.locked = none) → (∀ q ∈ l, ∀ k ∈ q.Work.Take, mget k s.held = none) → (l.Pairwise fun q r => ∀ k ∈ q.Work.ks, k ∉ r.Work.ks) →
    a' = 0 ∧ Inv (n + l.length) s' ∧ s'.held = s.held ∧ (∀ q ∈ l, gW s' q.Txn.k = some q.Work) ∧ ∀ k, (∀ q ∈ l, q.Txn.k ≠ k) → gW s' k = gW s k := by
  induction h with
  | nil => intro n ha I _ _ _ _ _ _; exact ⟨ha, I, rfl, fun q hq => (by cases hq), fun k _ => rfl⟩
  | @cons s s' a a' r l cs h ih =>
    intro n ha I hnd hno hok hlk htk hdj
    subst ha
    have hst := step_none (cs := cs) hnd hno
    have hE := prepE_none (w := r.Work) (hno r (by simp))
    have hnd' := hnd
    rw [List.map_cons, List.nodup_cons] at hnd'
    rw [List.pairwise_cons] at hdj
    have hway : wayT s r.Work 0 r.Work.ks = true := by
      rw [wayT_iff]
      intro j hj
      refine ⟨hlk r (by simp) _ (List.getElem_mem hj), ?_⟩
      by_cases hh : r.Work.Take.length ≤ 0 + j
      · exact .inl hh
      · right
        have e : r.Work.ks[j] = r.Work.Take[j]'(by omega) := by simp only [Work.ks]; rw [List.getElem_append_left (by omega)]
        rw [e]
        exact htk r (by simp) _ (List.getElem_mem _)
    rw [if_neg fun h => dupT_iff.1 h (hok r (by simp)).2, if_pos hway] at hE
    rw [hE, if_pos rfl] at h ih hst
    have hl := fun k => lockAll_get (x := r.Txn) (k := k) (ks := r.Work.ks) I.ld
    obtain ⟨g1, g2, g3, g4, g5⟩ := ih (n := n + 1) (by decide) (I.prep (hok r (by simp)).1.1 (hok r (by simp)).1.2 hE) hnd'.2 hst (fun q hq => hok q (by simp [hq])) (fun q hq k hk => by
      show mget k (lockAll r.Txn r.Work.ks s.locked) = none
      rw [(hl k).1, if_neg fun hk' => hdj.1 q hq k hk' hk]
      exact hlk q (by simp [hq]) k hk) (fun q hq k hk => htk q (by simp [hq]) k hk) hdj.2
    refine ⟨g1, by rw [List.length_cons, show n + (l.length + 1) = n + 1 + l.length by omega]; exact g2, g3, fun q hq => ?_, fun k hk => ?_⟩
    · rcases List.mem_cons.1 hq with rfl | hq
      · rw [g5 q.Txn.k fun r hr e => hnd'.1 (List.mem_map.2 ⟨r, hr, e⟩), gW_prep, if_pos rfl]
      · exact g4 q hq
    · rw [g5 k fun q hq => hk q (by simp [hq]), gW_prep, if_neg fun e => hk r (by simp) e.symm]
theorem load_own {n : Nat} {s s' : TS} {m : Table} {a' : Int} (I : Inv n s) (r : Rel s m) (hP : LoadP (holdF (holdsL s)) (loadH [] 0 (holdsL s)).2 (prepL s) s' a') : lastE a' (prepL s) = 0 ∧ Inv n s' ∧ Rel s' m := by
  have hs := holdsL_spec I.hd
  have hp := prepL_spec I.wd
  have hkn : ((holdsL s).map (·.Key)).Nodup := by
    rw [List.nodup_iff_pairwise_ne, List.pairwise_map]
    exact hs.rise.imp fun h => slt_ne h
  have hxn : ((prepL s).map (·.Txn.k)).Nodup := by
    rw [List.nodup_iff_pairwise_ne, List.pairwise_map]
    exact hp.rise.imp fun h e => by rw [e] at h; exact ltK_irr h
  have herr := loadH_err (l := holdsL s) (m := []) (a := 0)
  rw [if_pos ⟨hkn, fun k _ => rfl⟩] at herr
  rw [herr] at hP
  have hget : ∀ k, mget k (holdF (holdsL s)).held = mget k s.held := fun k => by
    have h1 := fun r => loadH_mem (l := holdsL s) (m := []) (a := 0) (k := k) (r := r) hkn
    have h2 := fun r => hs.mem ⟨k, r⟩
    show mget k (loadH [] 0 (holdsL s)).1 = _
    cases hg : mget k (loadH [] 0 (holdsL s)).1 with
    | some v =>
      rcases (h1 v).1 hg with h3 | ⟨_, h3⟩
      · exact ((h2 v).1 h3).symm
      · cases h3
    | none =>
      cases hh : mget k s.held with
      | none => rfl
      | some v => have := (h1 v).2 (.inl ((h2 v).2 hh)); rw [hg] at this; cases this
  have hlen : (holdsL s).length = s.held.length := by simp [holdsL, sortT_len]
  have hI0 : Inv n (holdF (holdsL s)) := holdF_inv (fun h hh => I.hk _ _ ((hs.mem h).1 hh)) (by rw [hlen]; exact I.hn)
  obtain ⟨g1, g2, g3, g4, g5⟩ := loadP_all hP rfl hI0 hxn (fun q _ => by simp [gW, holdF, mget]) (fun q hq => by
      obtain ⟨⟨k1, k2⟩, k3⟩ := I.ww _ _ (I.recs hq)
      exact ⟨⟨k1, k3⟩, k2⟩) (fun q hq k hk => rfl) (fun q hq k hk => by rw [hget]; exact I.tk _ _ (I.recs hq) k hk) (by
      refine List.Pairwise.imp_of_mem (fun {a b} ha hb hab k hk1 hk2 => ?_) hp.rise
      have e1 := (I.lk k a.Txn).2 ⟨_, I.recs ha, hk1⟩
      have e2 := (I.lk k b.Txn).2 ⟨_, I.recs hb, hk2⟩
      have e3 : a.Txn = b.Txn := Option.some.inj (e1.symm.trans e2)
      rw [e3] at hab
      exact ltK_irr hab)
  have hgW : ∀ k, gW s' k = gW s k := fun k => by
    by_cases hk : ∃ q ∈ prepL s, q.Txn.k = k
    · obtain ⟨q, hq, rfl⟩ := hk
      rw [g4 q hq, I.recs hq]
    · have hk' : ∀ q ∈ prepL s, q.Txn.k ≠ k := fun q hq e => hk ⟨q, hq, e⟩
      rw [g5 k hk']
      have hnone : gW s k = none := by
        cases hg : gW s k with
        | none => rfl
        | some w => exact absurd (k_toTx k) (hk' (recW (toTx k) w) ((hp.mem _).2 ⟨w, by show gW s (toTx k).k = _; rw [k_toTx]; exact hg, rfl⟩))
      rw [hnone]
      simp [gW, holdF, mget]
  have hR : Rel s' m := ⟨r.h.congr fun k => by rw [g3, hget], r.p.congr fun k => (hgW k).symm⟩
  refine ⟨?_, ?_, hR⟩
  · unfold lastE
    rw [if_neg (show ¬ dupX (prepL s) from fun h => h hxn)]
    exact g1
  · have e1 := hR.held g2
    have e2 := r.held I
    have e3 := hR.prep g2
    have e4 := r.prep I
    have l1 : s'.held.length = s.held.length := by
      have := congrArg List.length (e1.trans e2.symm)
      simpa [holdsL, sortT_len] using this
    have l2 : s'.works.length = s.works.length := by
      have := congrArg List.length (e3.trans e4.symm)
      simpa [prepL, sort3_len] using this
    exact { g2 with hn := by rw [l1]; exact I.hn, wn := by rw [l2]; exact I.wn }
end Go.Proofs.YtpphdbnifbjfmaaGreatDoor
