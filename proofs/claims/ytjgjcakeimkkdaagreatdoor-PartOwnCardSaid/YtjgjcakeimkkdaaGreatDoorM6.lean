/- A participant: what it holds, what it answers, what it keeps to. No program in sight. A participant as an object that is owned; New; is it prepared? the last tick. The last tick of a prepared transaction's keys. maps.DeleteFunc at what is done. maps.DeleteFunc at what is done; Expire. -/
import Derived.Test.YtjgjcakeimkkdaaGreatDoorM4
import Derived.Test.YtjgjcakeimkkdaaGreatDoorM3
import Derived.Test.YtjgjcakeimkkdaaGreatDoorM1
import Derived.Test.YtjgjcakeimkkdaaGreatDoorKD
set_option linter.unusedVariables false
set_option linter.unusedSimpArgs false
namespace Go.Proofs.YtjgjcakeimkkdaaGreatDoor
open Go Go.Sx Go.Proofs
open Classical in
/-- a key's tick -/
noncomputable def tickK (k : ByteArray) : Option Int := if h : ∃ q, isKey k.data.toList q then some (Classical.choose h).2.2 else none
theorem tickK_yes {k : ByteArray} {a b t : Int} (h : isKey k.data.toList (a, b, t)) : tickK k = some t := by
  unfold tickK
  have hex : ∃ q, isKey k.data.toList q := ⟨_, h⟩
  rw [dif_pos hex]
  have := (Classical.choose_spec hex).uniq h
  rw [this]
theorem tickK_no {k : ByteArray} (h : ∀ q, ¬ isKey k.data.toList q) : tickK k = none := by
  unfold tickK
  exact dif_neg fun ⟨q, hq⟩ => h q hq
abbrev maxTick : Int := 1073741824
/-- the last tick of keys -/
noncomputable def untilL : Int → List ByteArray → Int
  | a, [] => a
  | a, k :: ks => if (tickK k).isSome = true then untilL (max a ((tickK k).getD 0)) ks else maxTick
theorem tickK_fits {k : ByteArray} : fits ((tickK k).getD 0) := by
  by_cases h : ∃ q, isKey k.data.toList q
  · obtain ⟨⟨a, b, t⟩, hq⟩ := h
    rw [tickK_yes hq]
    have := hq
    simp only [isKey, tickI] at this
    unfold fits
    simp only [Option.getD_some]
    omega
  · rw [tickK_no fun q hq => h ⟨q, hq⟩]; exact fits0
theorem untilL_fits : ∀ {ks : List ByteArray} {a : Int}, fits a → fits (untilL a ks)
  | [], a, h => h
  | k :: ks, a, h => by
    unfold untilL
    split
    · refine untilL_fits ?_
      have := tickK_fits (k := k)
      unfold fits at *; omega
    · unfold fits maxTick; omega
/-- what a participant holds -/
structure PS where
  sh : Int
  t : TS
  done : List (K3 × Int)
def forMe (s : PS) (m : Message) : Prop := m.To = s.sh ∧ m.From = m.Txn.Node
instance {s : PS} {m : Message} : Decidable (forMe s m) := by unfold forMe; infer_instance
def isP (s : PS) (x : Txn) : Prop := (mget x.k s.t.works).isSome = true
instance {s : PS} {x : Txn} : Decidable (isP s x) := by unfold isP; infer_instance
def isD (s : PS) (x : Txn) : Prop := (mget x.k s.done).isSome = true
instance {s : PS} {x : Txn} : Decidable (isD s x) := by unfold isD; infer_instance
theorem isP_iff {s : PS} {x : Txn} : isP s x ↔ ∃ w, gW s.t x.k = some w := by
  unfold isP gW
  cases mget x.k s.t.works <;> simp
noncomputable def untilS (s : PS) (x : Txn) : Int := if isP s x then untilL 0 ((mget x.k s.t.works).getD zCW).2.ks else 0
theorem untilS_fits {s : PS} {x : Txn} : fits (untilS s x) := by
  unfold untilS; split
  · exact untilL_fits fits0
  · exact fits0
def voteM (s : PS) (m : Message) (y : Bool) : Message := { zMessage with From := s.sh, To := m.From, Kind := 2, Txn := m.Txn, Yes := y }
def ackM (s : PS) (m : Message) : Message := { zMessage with From := s.sh, To := m.From, Kind := 4, Txn := m.Txn }
def askM (s : PS) (x : Txn) : Message := { zMessage with From := s.sh, To := x.Node, Kind := 5, Txn := x }
def recP (m : Message) : Rec := ⟨2, m.Txn, m.Work, false, []⟩
def recA (m : Message) : Rec := ⟨3, m.Txn, zWork, m.Yes, []⟩
def hearOut (s : PS) (m : Message) : List Message :=
  if ¬ forMe s m then [] else
  if m.Kind = 1 then (if isD s m.Txn then [] else [voteM s m (decide (isP s m.Txn ∨ prepE s.t m.Txn m.Work = 0))])
  else if m.Kind = 3 then [ackM s m] else []
def hearRec (s : PS) (m : Message) : List Rec :=
  if ¬ forMe s m then [] else
  if m.Kind = 1 then (if isD s m.Txn then [] else if isP s m.Txn then [] else if prepE s.t m.Txn m.Work = 0 then [recP m] else [])
  else if m.Kind = 3 then (if isP s m.Txn then [recA m] else []) else []
noncomputable def hearS (s : PS) (m : Message) (cs : List Value) : PS :=
  if ¬ forMe s m then s else
  if m.Kind = 1 then (if isD s m.Txn then s else if isP s m.Txn then s else if prepE s.t m.Txn m.Work = 0 then ⟨s.sh, prepT s.t m.Txn m.Work cs, s.done⟩ else s)
  else if m.Kind = 3 then (if isP s m.Txn then ⟨s.sh, applyT s.t m.Txn m.Yes, if m.Yes = true then mset m.Txn.k (untilS s m.Txn) s.done else s.done⟩ else s) else s
/-- a message's work may be kept -/
structure OkM (m : Message) : Prop where
  w : OkW m.Work
  x : okX m.Txn.k
structure PInv (n : Nat) (s : PS) : Prop where
  t : Inv n s.t
  dd : (s.done.map (·.1)).Nodup
  dn : s.done.length ≤ n
  dv : ∀ x v, mget x s.done = some v → okX x ∧ fits v
  ap : ∀ x v, mget x s.done = some v → gW s.t x = none
  sh : fits s.sh
theorem PInv.more {n n' : Nat} {s : PS} (h : PInv n s) (hn : n ≤ n') : PInv n' s := { h with t := h.t.more hn, dn := Nat.le_trans h.dn hn }
theorem pinv0 {sh : Int} (h : fits sh) : PInv 0 ⟨sh, ⟨[], [], []⟩, []⟩ := ⟨inv0, by simp, by simp, fun x v h => (by cases h), fun x v h => (by cases h), h⟩
theorem PInv.hear {n : Nat} {s : PS} {m : Message} {cs : List Value} (h : PInv n s) (hm : OkM m) : PInv (n + 1) (hearS s m cs) := by
  have h0 := h.more (Nat.le_succ n)
  unfold hearS
  split
  · exact h0
  split
  · split
    · exact h0
    next hd =>
    split
    · exact h0
    next hp =>
    split
    · next he =>
      refine ⟨h.t.prep hm.w hm.x he, h.dd, h0.dn, h.dv, fun x v hx => ?_, h.sh⟩
      show gW (prepT s.t m.Txn m.Work cs) x = none
      rw [gW_prep, if_neg]
      · exact h.ap x v hx
      · rintro rfl
        apply hd
        unfold isD
        have hx' : mget m.Txn.k s.done = some v := hx
        rw [hx']; rfl
    · exact h0
  split
  · split
    · next hp =>
      obtain ⟨w, hw⟩ := isP_iff.1 hp
      have ht := h.t.apply (yes := m.Yes) hw
      have hge := fun k => gW_apply (s := s.t) h.t.wd (x := m.Txn) (w := w) (yes := m.Yes) k
      have e : applyT s.t m.Txn m.Yes = applyW s.t m.Txn m.Yes w := by
        unfold applyT
        unfold gW at hw
        have hp2 : (mget m.Txn.k s.t.works).isSome = true := hp
        rw [if_pos hp2]
        cases hq : mget m.Txn.k s.t.works with
        | none => rw [hq] at hw; cases hw
        | some q => rw [hq] at hw; cases hw; rfl
      rw [e]
      have hap : ∀ x v, mget x s.done = some v → gW (applyW s.t m.Txn m.Yes w) x = none := fun x v hx => by
        rw [hge]; split
        · rfl
        · exact h.ap x v hx
      cases hy : m.Yes with
      | false =>
        rw [hy] at ht hap
        exact ⟨ht, h.dd, h0.dn, h.dv, hap, h.sh⟩
      | true =>
        rw [hy] at ht hap hge
        refine ⟨ht, mset_nodup h.dd, ?_, fun x v hx => ?_, fun x v hx => ?_, h.sh⟩
        · show (mset m.Txn.k (untilS s m.Txn) s.done).length ≤ _
          rw [mset_len]; have := h.dn; split <;> omega
        · have hx' : mget x (mset m.Txn.k (untilS s m.Txn) s.done) = some v := hx
          rw [mget_mset] at hx'
          split at hx'
          · next e => subst e; cases hx'; exact ⟨hm.x, untilS_fits⟩
          · exact h.dv x v hx'
        · have hx' : mget x (mset m.Txn.k (untilS s m.Txn) s.done) = some v := hx
          rw [mget_mset] at hx'
          show gW (applyW s.t m.Txn true w) x = none
          rw [hge]
          split at hx'
          · next e => rw [if_pos e]
          · next e => rw [if_neg e]; exact h.ap x v hx'
    · exact h0
  · exact h0
/-- the done ones, in order -/
def doneOf (s : PS) (k : K3) : PartDone := ⟨toTx k, (mget k s.done).getD 0⟩
def doneL (s : PS) : List PartDone := (sort3 (s.done.map (·.1))).map (doneOf s)
/-- what is done when its tick has gone by -/
noncomputable def expireP (s : PS) (now : Int) : PS := ⟨s.sh, expireT s.t now, s.done.filter fun q => !decide (q.2 < now)⟩
theorem mget_filter {p : K3 × Int → Bool} {k : K3} : ∀ {m : List (K3 × Int)}, (m.map (·.1)).Nodup → mget k (m.filter p) = if (mget k m).any (fun v => p (k, v)) = true then mget k m else none
  | [], _ => by simp [mget]
  | (k1, v1) :: m, hn => by
    simp only [List.map_cons, List.nodup_cons] at hn
    have ih := mget_filter (p := p) (k := k) hn.2
    rw [List.filter_cons]
    by_cases hk : k = k1
    · subst hk
      have hnone : mget k m = none := mget_none.2 hn.1
      by_cases hp : p (k, v1) = true
      · simp [hp, mget]
      · simp only [Bool.not_eq_true] at hp
        simp [hp, mget, ih, hnone]
    · by_cases hp : p (k1, v1) = true
      · simp [hp, mget, hk, ih]
      · simp only [Bool.not_eq_true] at hp
        simp [hp, mget, hk, ih]
theorem PInv.expire {n : Nat} {s : PS} {now : Int} (h : PInv n s) : PInv n (expireP s now) := by
  have hs : ∀ x v, mget x (s.done.filter fun q => !decide (q.2 < now)) = some v → mget x s.done = some v := fun x v hx => by
    rw [mget_filter h.dd] at hx
    split at hx
    · exact hx
    · cases hx
  exact ⟨h.t.expire.1, h.dd.sublist ((List.filter_sublist).map _), Nat.le_trans (List.length_filter_le _ _) h.dn, fun x v hx => h.dv x v (hs x v hx), fun x v hx => h.ap x v (hs x v hx), h.sh⟩
end Go.Proofs.YtjgjcakeimkkdaaGreatDoor

set_option linter.unusedVariables false
set_option linter.unusedSimpArgs false
namespace Go.Proofs.YtjgjcakeimkkdaaGreatDoor
open Go Go.Sx Go.Proofs
abbrev pRow (p tp : Nat) (sh : Int) (db : Nat) : HProp := row p 63 [.pointer (some ⟨tp, 0, none⟩), I sh, .map (some db)]
abbrev dMap (H : Heap) (db : Nat) (s : PS) : HProp := mapO ek3 rInt false H db s.done
/-- a participant, owned: what it holds is s -/
def partO (H : Heap) (p : Nat) (s : PS) : HProp := fun h => ∃ tp db, big [pRow p tp s.sh db, tabO H tp s.t, dMap H db s] h
theorem part_fold {H : Heap} {p tp db : Nat} {s : PS} {L : List HProp} : Sub (pRow p tp s.sh db :: tabO H tp s.t :: dMap H db s :: L) (partO H p s :: L) :=
  sub_fold (B := [pRow p tp s.sh db, tabO H tp s.t, dMap H db s]) (Sub.refl _) fun h hb => ⟨tp, db, hb⟩
theorem d_up {H H' : Heap} {db : Nat} {l : List (K3 × Int)} {L : List HProp} (hl : H.le H') : Sub (mapO ek3 rInt false H db l :: L) (mapO ek3 rInt false H' db l :: L) := mapO_up hl
theorem part_up {H H' : Heap} {p : Nat} {s : PS} {L : List HProp} (hl : H.le H') : Sub (partO H p s :: L) (partO H' p s :: L) := fun h ⟨h1, h2, ⟨tp, db, hbig⟩, r⟩ => by
  refine ⟨h1, h2, ⟨tp, db, ?_⟩, r⟩
  obtain ⟨a1, a2, x1, ⟨b1, b2, x2, y2, z2⟩, z1⟩ := hbig
  have k := tab_up (L := [dMap H db s]) hl _ ⟨b1, b2, x2, y2, z2⟩
  obtain ⟨c1, c2, u1, u2, u3⟩ := k
  exact ⟨a1, a2, x1, ⟨c1, c2, u1, (d_up (L := []) hl _ (by exact u2)), u3⟩, z1⟩
/-- shut again, its parts read in older heaps -/
theorem part_shut {H1 H2 H' : Heap} {p tp db : Nat} {sh : Int} {t : TS} {d : List (K3 × Int)} {L : List HProp} (h1 : H1.le H') (h2 : H2.le H') : Sub (pRow p tp sh db :: tabO H1 tp t :: mapO ek3 rInt false H2 db d :: L) (partO H' p ⟨sh, t, d⟩ :: L) :=
  Sub.trans (Sub.cons (Sub.trans (tab_up h1) (Sub.cons (d_up h2)))) (part_fold (s := ⟨sh, t, d⟩))
theorem pnew_spec {W0 : World} {H : Heap} {sh : Int} (hsh : fits sh) :
    Ct Tryz.prog 7 #[I sh] W0 H [] (fun r H' B => ∃ p, r = .pointer (some ⟨p, 0, none⟩) ∧ B = [partO H p ⟨sh, ⟨[], [], []⟩, []⟩] ∧ H' = H) := by
  refine Ct.go (vs := [I sh]) fun R => ?_
  refine walk ?_
  refine ops_call (vs := []) rfl rfl new_spec fun r1 H1 B hl1 ⟨tp, er, eB, eH⟩ => ?_
  subst er eB eH
  refine walk ?_
  refine ops_makeMap ek3 rInt false rfl fun db _ => ?_
  refine walk ?_
  refine ops_box rfl rfl fun p _ => ?_
  refine walk ?_
  refine finB [partO H1 p ⟨sh, ⟨[], [], []⟩, []⟩] ?_ (hs := ?_)
  · exact ⟨p, rfl, rfl, rfl⟩
  · refine Sub.trans ?_ (part_fold (tp := tp) (db := db) (s := ⟨sh, ⟨[], [], []⟩, []⟩))
    (repeat (first | exact Sub.refl _ | exact Sub.nil _ | (apply sub_pick; (repeat (first | exact Has.here | apply Has.there)); skip) | apply Sub.drop))
theorem pown_spec {W0 : World} {H : Heap} {c : List Value} {m : Work} (h0 : rWork H c m) :
    Ct Tryz.prog 27 #[.agg c.toArray] W0 H [] (fun r H' B => ∃ cs, r = .agg cs.toArray ∧ rWork H' cs m ∧ B = []) := by
  refine Ct.go fun R => ?_
  obtain ⟨s1, s2, rfl, f1, h1, h2⟩ := h0
  refine walk ?_
  refine ops_box rfl rfl fun p1 _ => ?_
  refine ops_alloc rfl fun p2 _ => ?_
  refine walk ?_
  refine ex_any 7 [row p1 32 (m.cv s1 s2)] ?_
  refine stepY 0 ?_; refine stepY 1 ?_
  refine stepY 3 ?_; refine stepY 4 ?_
  refine any_call 2 rfl rfl (cloneT_spec h1) fun r1 H1 B hl1 ⟨eB, eH⟩ => ?_
  subst eB eH
  refine ⟨(by (repeat (first | exact Sub.refl _ | exact Sub.nil _ | (apply sub_pick; (repeat (first | exact Has.here | apply Has.there)); skip) | apply Sub.drop))), ?_⟩
  refine stepY 6 ?_
  refine any_call 5 rfl rfl (cloneT_spec h2) fun r2 H2 B hl2 ⟨eB, eH⟩ => ?_
  subst eB eH
  refine ⟨(by (repeat (first | exact Sub.refl _ | exact Sub.nil _ | (apply sub_pick; (repeat (first | exact Has.here | apply Has.there)); skip) | apply Sub.drop))), ?_⟩
  refine any_rest rfl ?_
  refine ops_shape r1 fun d1 e1 e _ _ _ => ?_
  subst e
  refine ops_shape r2 fun d2 e2 e _ _ _ => ?_
  subst e
  refine walk ?_
  refine out_freeze (.slice d1 m.Take.length e1) fun H3 hl3 k1 => ?_
  refine out_freeze (.slice d2 m.Drop.length e2) fun H4 hl4 k2 => ?_
  refine fin0 ?_
  exact ⟨m.cv (.slice d1 m.Take.length e1) (.slice d2 m.Drop.length e2), rfl, ⟨_, _, rfl, f1, k1.mono hl4, k2⟩, rfl⟩
/-- a record's cells from the second on are its transaction's -/
theorem rec_tx {H : Heap} {b o : Nat} {q : Rec} {s1 s2 s3 : Value} (hr : HRow H b o (q.cv s1 s2 s3)) : HRow H b (o + 1) [I q.Txn.Node, I q.Txn.Life, I q.Txn.Count] := HRow.take (k := 3) (HRow.drop (k := 1) hr)
theorem tx_ext {a b : Txn} : a = b ↔ a.Node = b.Node ∧ a.Life = b.Life ∧ a.Count = b.Count := by cases a; cases b; simp
/-- does one of them stand for x? -/
theorem ask_is {W0 : World} {H : Heap} {p : Nat} {x : Txn} : Asks Tryz.prog W0 H rRec 51 [.pointer (some ⟨p, 0, none⟩)] (fun c => .agg c.toArray) [row p 29 [I x.Node, I x.Life, I x.Count]] (fun q => decide (q.Txn = x)) := by
  intro c q hc
  refine Ct.go (vs := [.agg c.toArray, .pointer (some ⟨p, 0, none⟩)]) fun R => ?_
  obtain ⟨s1, s2, s3, rfl, g1, g2, g3, g4, g5, g6, g7, g8⟩ := hc
  obtain ⟨b1, c1, rfl, _, _⟩ := g6.1.shape
  obtain ⟨b2, c2, rfl, _, _⟩ := g7.1.shape
  obtain ⟨b3, c3, rfl, _, _⟩ := g8.1.shape
  obtain ⟨x1, x2, x3⟩ := x
  refine walk ?_
  refine ops_box rfl rfl fun p2 _ => ?_
  refine walk ?_
  refine finB [row p 29 [I x1, I x2, I x3]] ?_
  exact ⟨bdec tx_ext.symm, rfl, rfl⟩
theorem idxRec_spec {W0 : World} {H HS : Heap} {v : Value} {xs : List Rec} {f : FuncId} {cap : List Value} {a : HProp} {p : Rec → Bool} [hf : TFn Tryz.prog f] (hl : HS.le H) (hask : Asks Tryz.prog W0 H rRec f cap (fun c => .agg c.toArray) [a] p) :
    Ct Tryz.prog 81 #[v, .func (.func f) #[] cap.toArray] W0 H [ownS rRec 9 120 53 HS v xs, a]
      (fun r H' B => B = [ownS rRec 9 120 53 HS v xs, a] ∧ H' = H ∧ ∃ j, j ≤ xs.length ∧ (∀ i (h : i < xs.length), i < j → p xs[i] = false) ∧ ((j = xs.length ∧ r = I (-1)) ∨ (∃ h : j < xs.length, p xs[j] = true ∧ r = I j))) := by
  refine Ct.go fun R => ?_
  refine ex_shape v fun base cp e q1 q2 q3 => ?_
  subst e
  refine walk ?_
  refine ex_loop (fun k => k ≤ xs.length ∧ ∀ i (h : i < xs.length), i < k → p xs[i] = false) (fun k => [(0, .slice base xs.length cp), (1, .func (.func f) #[] cap.toArray), (7, I xs.length), (8, I k)]) (fun _ => H) (fun _ => ownS rRec 9 120 53 HS (.slice base xs.length cp) xs :: a :: R) (fun k => xs.length - k) 0 ⟨Nat.zero_le _, fun i _ h => by omega⟩ fun k ⟨hk0, hno⟩ K hL => ?_
  refine walk ?_
  refine ex_if rfl (fun hk => ?_) (fun hk => ?_)
  · have hk1 : k < xs.length := by omega
    refine walk ?_
    refine ops_ixo rfl rfl rfl hk1 fun c hc => ?_
    refine ops_callv rfl rfl rfl (hask c _ (RdOk.mono hl hc)) fun r H' B hl' ⟨er, eB, eH⟩ => ?_
    subst er eB eH
    refine walk ?_
    refine ex_ifb rfl Iff.rfl (fun hp => ?_) (fun hp => ?_)
    · refine walk ?_
      refine finB [ownS rRec 9 120 53 HS (.slice base xs.length cp) xs, a] ?_
      exact ⟨rfl, rfl, k, hk0, hno, .inr ⟨hk1, hp, rfl⟩⟩
    · refine walk ?_
      refine out_next hL (k + 1) ⟨by omega, fun i h hi => ?_⟩
      rcases Nat.lt_or_ge i k with h' | h'
      · exact hno i h h'
      · obtain rfl : i = k := by omega
        simpa using hp
  · refine walk ?_
    refine finB [ownS rRec 9 120 53 HS (.slice base xs.length cp) xs, a] ?_
    exact ⟨rfl, rfl, xs.length, Nat.le_refl _, fun i h hi => hno i h (by omega), .inl ⟨rfl, rfl⟩⟩
theorem isP_mem {s : PS} {x : Txn} (hn : (s.t.works.map (·.1)).Nodup) : isP s x ↔ ∃ q ∈ prepL s.t, q.Txn = x := by
  have hp := prepL_spec hn
  constructor
  · intro h
    obtain ⟨w, hw⟩ := isP_iff.1 h
    exact ⟨recW x w, (hp.mem _).2 ⟨w, hw, rfl⟩, rfl⟩
  · rintro ⟨q, hq, rfl⟩
    obtain ⟨w, hw, _⟩ := (hp.mem q).1 hq
    exact isP_iff.2 ⟨w, hw⟩
theorem contains_spec {W0 : World} {H HS : Heap} {v : Value} {xs : List Rec} {p : Nat} {x : Txn} (hl : HS.le H) :
    Ct Tryz.prog 50 #[v, .func (.func 51) #[] #[.pointer (some ⟨p, 0, none⟩)]] W0 H [ownS rRec 9 120 53 HS v xs, row p 29 [I x.Node, I x.Life, I x.Count]]
      (fun r H' B => r = .bool (decide (∃ q ∈ xs, q.Txn = x)) ∧ B = [ownS rRec 9 120 53 HS v xs, row p 29 [I x.Node, I x.Life, I x.Count]] ∧ H' = H) := by
  refine Ct.go (vs := [v, .func (.func 51) #[] #[.pointer (some ⟨p, 0, none⟩)]]) fun R => ?_
  refine walk ?_
  refine ops_call rfl rfl (idxRec_spec (W0 := W0) (H := H) (HS := HS) (v := v) (xs := xs) hl (ask_is (p := p) (x := x))) fun r1 H1 B hl1 ⟨eB, eH, j, hj, hno, hcase⟩ => ?_
  subst eB eH
  rcases hcase with ⟨rfl, rfl⟩ | ⟨hj1, hpj, rfl⟩
  · refine walk ?_
    refine finB [ownS rRec 9 120 53 HS v xs, row p 29 [I x.Node, I x.Life, I x.Count]] ?_
    refine ⟨?_, rfl, rfl⟩
    rw [decide_eq_false]
    rintro ⟨q, hq, hx⟩
    obtain ⟨i, hi, rfl⟩ := List.getElem_of_mem hq
    have := hno i hi hi
    rw [decide_eq_false_iff_not] at this
    exact this hx
  · have hge : (0 : Int) ≤ (j : Int) := by omega
    refine walk ?_
    refine finB [ownS rRec 9 120 53 HS v xs, row p 29 [I x.Node, I x.Life, I x.Count]] ?_
    refine ⟨?_, rfl, rfl⟩
    rw [decide_eq_true]
    exact ⟨_, List.getElem_mem hj1, of_decide_eq_true hpj⟩
theorem is_spec {W0 : World} {H : Heap} {p : Nat} {s : PS} {x : Txn} (hs : TsOk s.t) (hn : (s.t.works.map (·.1)).Nodup) :
    Ct Tryz.prog 25 #[.pointer (some ⟨p, 0, none⟩), .agg x.cv.toArray] W0 H [partO H p s] (fun r H' B => r = .bool (decide (isP s x)) ∧ B = [partO H' p s]) := by
  refine Ct.go (vs := [.pointer (some ⟨p, 0, none⟩), .agg x.cv.toArray]) fun R => ?_
  rw [decide_eq_decide.2 (isP_mem hn)]
  refine ex_open (A := partO H p s) (σ := Nat × Nat) (B := fun a => [pRow p a.1 (PS.sh s) a.2, tabO H a.1 (PS.t s), dMap H a.2 s]) (p := fun _ => True) (by repeat (first | exact Has.here | apply Has.there)) (fun h ⟨tp, db, hbig⟩ => ⟨(tp, db), trivial, hbig⟩) fun ⟨tp, db⟩ _ => ?_
  dsimp only
  refine walk ?_
  refine ops_box rfl rfl fun p3 _ => ?_
  refine walk ?_
  refine ops_call rfl rfl (prepared_spec (W0 := W0) (H := H) (p := tp) hs) fun r1 H1 B hl1 eB => ?_
  subst eB
  refine walk ?_
  refine ops_call rfl rfl (contains_spec (W0 := W0) (H := H1) (HS := H1) (v := r1) (xs := prepL s.t) (p := p3) (x := x) (.refl _)) fun r2 H2 B hl2 ⟨er, eB, eH⟩ => ?_
  subst er eB eH
  refine walk ?_
  refine finB [partO H2 p s] ?_ (hs := ?_)
  · exact ⟨rfl, rfl⟩
  · refine Sub.trans ?_ (part_shut (H1 := H2) (H2 := H) (tp := tp) (db := db) (.refl _) hl1)
    (repeat (first | exact Sub.refl _ | exact Sub.nil _ | (apply sub_pick; (repeat (first | exact Has.here | apply Has.there)); skip) | apply Sub.drop))
end Go.Proofs.YtjgjcakeimkkdaaGreatDoor

set_option linter.unusedVariables false
set_option linter.unusedSimpArgs false
namespace Go.Proofs.YtjgjcakeimkkdaaGreatDoor
open Go Go.Sx Go.Proofs
/-- keys, then what comes behind them -/
noncomputable def untilK (c : Int → Int) : Int → List ByteArray → Int
  | a, [] => c a
  | a, k :: ks => if (tickK k).isSome = true then untilK c (max a ((tickK k).getD 0)) ks else maxTick
noncomputable def untilR (x : Txn) : Int → List Rec → Int
  | a, [] => a
  | a, q :: l => if q.Txn = x then untilK (fun a => untilR x a l) a q.Work.ks else untilR x a l
theorem untilK_id : ∀ {ks : List ByteArray} {a : Int}, untilK (fun a => a) a ks = untilL a ks
  | [], a => rfl
  | k :: ks, a => by unfold untilK untilL; rw [untilK_id]
theorem untilR_none {x : Txn} : ∀ {l : List Rec} {a : Int}, (∀ q ∈ l, q.Txn ≠ x) → untilR x a l = a
  | [], a, _ => rfl
  | q :: l, a, h => by
    unfold untilR
    rw [if_neg (h q (List.mem_cons_self ..)), untilR_none fun q hq => h q (List.mem_cons_of_mem _ hq)]
theorem untilR_one {x : Txn} : ∀ {l : List Rec} {a : Int} {q : Rec}, l.Pairwise (fun a b => ltK a.Txn.k b.Txn.k) → q ∈ l → q.Txn = x → untilR x a l = untilL a q.Work.ks
  | q :: l, a, q', hr, hq, hx => by
    rw [List.pairwise_cons] at hr
    unfold untilR
    rcases List.mem_cons.1 hq with rfl | hq
    · rw [if_pos hx]
      have hno : ∀ q ∈ l, q.Txn ≠ x := fun q hq e => by
        have := hr.1 q hq
        rw [hx, e] at this
        exact ltK_irr this
      have : (fun a => untilR x a l) = fun a => a := funext fun a => untilR_none hno
      rw [this, untilK_id]
    · rw [if_neg, untilR_one hr.2 hq hx]
      intro e
      have := hr.1 q' hq
      rw [hx, e] at this
      exact ltK_irr this
theorem untilR_eq {s : PS} {x : Txn} (hn : (s.t.works.map (·.1)).Nodup) : untilR x 0 (prepL s.t) = untilS s x := by
  have hp := prepL_spec hn
  unfold untilS
  by_cases h : isP s x
  · rw [if_pos h]
    obtain ⟨w, hw⟩ := isP_iff.1 h
    have hm := (hp.mem (recW x w)).2 ⟨w, hw, rfl⟩
    rw [untilR_one (x := x) hp.rise hm (rfl : (recW x w).Txn = x)]
    unfold gW at hw
    cases hq : mget x.k s.t.works with
    | none => rw [hq] at hw; cases hw
    | some v => rw [hq] at hw; cases hw; rfl
  · rw [if_neg h, untilR_none]
    rintro q hq rfl
    obtain ⟨w, hw, _⟩ := (hp.mem q).1 hq
    exact h (isP_iff.2 ⟨w, hw⟩)
theorem untilR_fits {x : Txn} : ∀ {l : List Rec} {a : Int}, fits a → fits (untilR x a l)
  | [], a, h => h
  | q :: l, a, h => by
    unfold untilR
    split
    · generalize hc : (fun a => untilR x a l) = c
      have hcf : ∀ a, fits a → fits (c a) := fun a ha => by rw [← hc]; exact untilR_fits ha
      have key : ∀ (ks : List ByteArray) (a : Int), fits a → fits (untilK c a ks) := fun ks => by
        induction ks with
        | nil => exact fun a h => hcf a h
        | cons k ks ih =>
          intro a h
          unfold untilK
          split
          · refine ih _ ?_
            have := tickK_fits (k := k)
            unfold fits at *; omega
          · unfold fits maxTick; omega
      exact key _ _ h
    · exact untilR_fits h
set_option maxHeartbeats 8000000 in
theorem until_spec {W0 : World} {H : Heap} {p : Nat} {s : PS} {x : Txn} (hP : PkH H) (hs : TsOk s.t) (hn : (s.t.works.map (·.1)).Nodup) (hks : ∀ q ∈ prepL s.t, q.Work.ks.length * 16 ≤ cap47) :
    Ct Tryz.prog 28 #[.pointer (some ⟨p, 0, none⟩), .agg x.cv.toArray] W0 H [partO H p s] (fun r H' B => r = I (untilS s x) ∧ B = [partO H' p s]) := by
  refine Ct.go (vs := [.pointer (some ⟨p, 0, none⟩), .agg x.cv.toArray]) fun R => ?_
  rw [← untilR_eq hn]
  obtain ⟨x1, x2, x3⟩ := x
  refine ex_open (A := partO H p s) (σ := Nat × Nat) (B := fun a => [pRow p a.1 (PS.sh s) a.2, tabO H a.1 (PS.t s), dMap H a.2 s]) (p := fun _ => True) (by repeat (first | exact Has.here | apply Has.there)) (fun h ⟨tp, db, hbig⟩ => ⟨(tp, db), trivial, hbig⟩) fun ⟨tp, db⟩ _ => ?_
  dsimp only
  refine walk ?_
  refine ops_box rfl rfl fun p3 _ => ?_
  refine walk ?_
  refine ops_call rfl rfl (prepared_spec (W0 := W0) (H := H) (p := tp) hs) fun r1 H1 B hl1 eB => ?_
  subst eB
  refine ops_freeze r1 fun H2 hl2 hsl => ?_
  generalize hl : prepL s.t = l at *
  generalize hT : untilR ⟨x1, x2, x3⟩ 0 l = T
  obtain ⟨b0, c0, rfl, hc0, hd0⟩ := hsl.1.shape
  refine walk ?_
  refine ex_loop (σ := Nat × Int × Heap) (fun u => u.1 ≤ l.length ∧ untilR ⟨x1, x2, x3⟩ u.2.1 (l.drop u.1) = T ∧ fits u.2.1 ∧ H2.le u.2.2) (fun u => [(0, .pointer (some ⟨p, 0, none⟩)), (3, .pointer (some ⟨p3, 0, none⟩)), (5, I u.2.1), (16, .slice b0 l.length c0), (17, I l.length), (18, I u.1)]) (fun u => u.2.2) (fun u => pRow p tp s.sh db :: tabO H1 tp s.t :: dMap H db s :: row p3 29 [I x1, I x2, I x3] :: R) (fun u => l.length - u.1) (0, 0, H2) ⟨Nat.zero_le _, hT, fits0, .refl _⟩ fun ⟨j, a, HK⟩ ⟨hj0, hF, hfa, hlK⟩ K hL => ?_
  simp only at hj0 hF hfa hlK
  dsimp only
  have hPK := hP.mono (hl1.trans (hl2.trans hlK))
  refine walk ?_
  refine ex_if rfl (fun hj => ?_) (fun hj => ?_)
  · have hj1 : j < l.length := by omega
    have hkq := hks l[j] (List.getElem_mem hj1)
    rw [List.drop_eq_getElem_cons hj1] at hF
    unfold untilR at hF
    refine walk ?_
    refine ops_ixp rfl rfl (hsl.mono hlK).1 hj1 fun b o c hr hc => ?_
    obtain ⟨s1, s2, s3, rfl, g1, g2, g3, g4, g5, g6, g7, g8⟩ := hc
    generalize l[j] = q at hr g1 g2 g3 g4 g5 g6 g7 g8 hF hkq
    obtain ⟨qk, ⟨xa, xb, xc⟩, ⟨wr, wt, wd⟩, qy, qp⟩ := q
    dsimp only at hr g1 g2 g3 g4 g5 g6 g7 g8 hF hkq
    obtain ⟨sb1, sc1, rfl, _, _⟩ := g6.1.shape
    obtain ⟨sb2, sc2, rfl, _, _⟩ := g7.1.shape
    obtain ⟨sb3, sc3, rfl, _, _⟩ := g8.1.shape
    change HRow HK b o [I qk, I xa, I xb, I xc, I wr, .slice sb1 wt.length sc1, .slice sb2 wd.length sc2, .bool qy, .slice sb3 qp.length sc3] at hr
    refine ops_ldNH rfl rfl hr rfl ?_
    refine ops_alloc rfl fun p7 _ => ?_
    refine walk ?_
    refine ex_if rfl (fun hq => ?_) (fun hq => ?_)
    · rw [if_neg (fun e => hq (by simpa using tx_ext.1 e))] at hF
      refine walk ?_
      exact out_next hL (j + 1, a, HK) ⟨by simp only; omega, hF, hfa, hlK⟩
    · have hq' : (⟨xa, xb, xc⟩ : Txn) = ⟨x1, x2, x3⟩ := Classical.byContradiction fun h => hq fun e => h (tx_ext.2 e)
      rw [if_pos hq'] at hF
      generalize hcn : (fun a => untilR ⟨x1, x2, x3⟩ a (l.drop (j + 1))) = cn at hF
      refine walk ?_
      refine ops_bsN rfl rfl fun pb _ => ?_
      refine ops_frzR .here fun H3 hl3 hr3 => ?_
      have hwn' : (wt.length + wd.length) * 16 ≤ cap47 := by simpa [Work.ks] using hkq
      have hsr : SlR (rSl rStr 1 16) 1 H3 (.slice (some ⟨pb, 0, none⟩) 2 2) [wt, wd] := slr_of_hrow (R := rSl rStr 1 16) (xs := [wt, wd]) hr3 (show RL (rSl rStr 1 16) H3 [.slice sb1 wt.length sc1, .slice sb2 wd.length sc2] [wt, wd] from ⟨[_], [_], rfl, ⟨_, rfl, g6.mono hl3⟩, ⟨[_], [], rfl, ⟨_, rfl, g7.mono hl3⟩, rfl⟩⟩) (by simp) (by omega)
      have hcat := concat_spec (W0 := W0) hsr (by simpa [sumLen] using hwn')
      rw [show [wt, wd].flatten = (⟨wr, wt, wd⟩ : Work).ks by simp [Work.ks]] at hcat
      generalize hks2 : (⟨wr, wt, wd⟩ : Work).ks = ks at hcat hF hkq
      refine ops_call rfl rfl hcat fun r4 H4 B hl4 ⟨eB, eH⟩ => ?_
      subst eB eH
      refine ops_freeze r4 fun H5 hl5 hsk => ?_
      obtain ⟨bk, ck, rfl, hck, hdk⟩ := hsk.1.shape
      have hl25 : H2.le H5 := hlK.trans (hl3.trans (hl4.trans hl5))
      have hP5 := hPK.mono (hl3.trans (hl4.trans hl5))
      refine walk ?_
      refine ex_loop (σ := Nat × Int) (fun u => u.1 ≤ ks.length ∧ untilK cn u.2 (ks.drop u.1) = T ∧ fits u.2) (fun u => [(0, .pointer (some ⟨p, 0, none⟩)), (3, .pointer (some ⟨p3, 0, none⟩)), (5, I u.2), (16, .slice b0 l.length c0), (17, I l.length), (18, I j), (33, .slice bk ks.length ck), (34, I ks.length), (35, I u.1)]) (fun _ => H5) (fun _ => pRow p tp s.sh db :: tabO H1 tp s.t :: dMap H db s :: row p3 29 [I x1, I x2, I x3] :: R) (fun u => ks.length - u.1) (0, a) ⟨Nat.zero_le _, hF, hfa⟩ fun ⟨i, a2⟩ ⟨hi0, hF2, hfa2⟩ K2 hL2 => ?_
      simp only at hi0 hF2 hfa2
      dsimp only
      refine walk ?_
      refine ex_if rfl (fun hi => ?_) (fun hi => ?_)
      · have hi1 : i < ks.length := by omega
        rw [List.drop_eq_getElem_cons hi1] at hF2
        unfold untilK at hF2
        have hrd := fun (hz : ks[i].data.toList.length ≤ cap47) => read_spec (W0 := W0) (l := ks[i].data.toList) hP5 hz
        rw [sb_self] at hrd
        refine walk ?_
        refine ops_ixp rfl rfl hsk.1 hi1 fun b o c hr hc => ?_
        obtain ⟨rfl, hsz⟩ := hc
        refine walk ?_
        refine ops_call rfl rfl (hrd (by rw [← Lib.size_eq]; exact hsz)) fun r6 H6 B hl6 ⟨hrr, eB, eH⟩ => ?_
        subst eB eH
        obtain ⟨ka, kb, kt, ok, rfl, hkk⟩ := hrr.form
        refine walk ?_
        refine ops_alloc rfl fun p10 _ => ?_
        refine walk ?_
        rcases hkk with ⟨rfl, hkk⟩ | ⟨rfl, hno, rfl, rfl, rfl⟩
        · have ht := tickK_yes hkk
          rw [ht, if_pos (show (some kt).isSome = true from rfl), show (some kt).getD 0 = kt from rfl] at hF2
          have hft : fits kt := by have := tickK_fits (k := ks[i]); rw [ht] at this; exact this
          rw [show (!true) = false from rfl]
          refine walk ?_
          exact out_next hL2 (i + 1, max a2 kt) ⟨by simp only; omega, hF2, by simp only; unfold fits at *; omega⟩
        · have ht := tickK_no hno
          rw [ht, if_neg (by simp)] at hF2
          rw [show (!false) = true from rfl]
          refine walk ?_
          rw [← hF2]
          refine finB [partO H6 p s] ?_ (hs := ?_)
          · exact ⟨rfl, rfl⟩
          · refine Sub.trans ?_ (part_shut (H1 := H1) (H2 := H) (tp := tp) (db := db) (hl2.trans hl25) (hl1.trans (hl2.trans hl25)))
            (repeat (first | exact Sub.refl _ | exact Sub.nil _ | (apply sub_pick; (repeat (first | exact Has.here | apply Has.there)); skip) | apply Sub.drop))
      clear hL2
      obtain rfl : i = ks.length := by omega
      rw [List.drop_length] at hF2
      unfold untilK at hF2
      rw [← hcn] at hF2
      refine walk ?_
      exact out_next hL (j + 1, a2, H5) ⟨by simp only; omega, hF2, hfa2, hl25⟩
  clear hL
  obtain rfl : j = l.length := by omega
  rw [List.drop_length] at hF
  unfold untilR at hF
  refine walk ?_
  rw [← hF]
  refine finB [partO HK p s] ?_ (hs := ?_)
  · exact ⟨rfl, rfl⟩
  · refine Sub.trans ?_ (part_shut (H1 := H1) (H2 := H) (tp := tp) (db := db) (hl2.trans hlK) (hl1.trans (hl2.trans hlK)))
    (repeat (first | exact Sub.refl _ | exact Sub.nil _ | (apply sub_pick; (repeat (first | exact Has.here | apply Has.there)); skip) | apply Sub.drop))
end Go.Proofs.YtjgjcakeimkkdaaGreatDoor

set_option linter.unusedVariables false
set_option linter.unusedSimpArgs false
namespace Go.Proofs.YtjgjcakeimkkdaaGreatDoor
open Go Go.Sx Go.Proofs
theorem gone_spec {W0 : World} {H : Heap} {p : Nat} {x : K3} {u now : Int} :
    Ct Tryz.prog 94 #[ek3 x, I u, .pointer (some ⟨p, 0, none⟩)] W0 H [row p 3 [I now]] (fun r H' B => r = .bool (decide (u < now)) ∧ B = [row p 3 [I now]] ∧ H' = H) := by
  obtain ⟨x1, x2, x3⟩ := x
  refine Ct.go (vs := [ek3 (x1, x2, x3), I u, .pointer (some ⟨p, 0, none⟩)]) fun R => ?_
  unfold ek3
  refine walk ?_
  refine ops_box rfl rfl fun p3 _ => ?_
  refine walk ?_
  refine finB [row p 3 [I now]] ?_
  exact ⟨rfl, rfl, rfl⟩
def marks (l : Marked K3 Int) : Nat := (l.filter fun x => !x.2).length
theorem marks_lt {pre post : Marked K3 Int} {q : K3 × Int} {x : Marked K3 Int} (h : x = [(q, true)] ∨ x = []) : marks (pre ++ x ++ post) < marks (pre ++ (q, false) :: post) := by
  unfold marks
  rcases h with rfl | rfl <;> simp [List.filter_append] <;> omega
set_option maxHeartbeats 4000000 in
theorem delFunc_spec {W0 : World} {H HS : Heap} {b p : Nat} {ms : List (K3 × Int)} {now : Int} :
    Ct Tryz.prog 93 #[.map (some b), .func (.func 94) #[] #[.pointer (some ⟨p, 0, none⟩)]] W0 H [mapO ek3 rInt false HS b ms, row p 3 [I now]]
      (fun r H' B => B = [mapO ek3 rInt false HS b (ms.filter fun q => !decide (q.2 < now)), row p 3 [I now]] ∧ H' = H) := by
  refine Ct.go (vs := [.map (some b), .func (.func 94) #[] #[.pointer (some ⟨p, 0, none⟩)]]) fun R => ?_
  refine walk ?_
  refine ops_range rfl rfl (by repeat (first | exact Has.here | apply Has.there)) fun r _ => ?_
  refine walk ?_
  refine ex_loop (σ := Marked K3 Int × Option Nat) (fun u => ((u.1.map (·.1)).filter fun q => !decide (q.2 < now)) = (ms.filter fun q => !decide (q.2 < now)) ∧ ∀ x ∈ u.1, x.2 = true → ¬ x.1.2 < now) (fun u => [(0, .map (some b)), (1, .func (.func 94) #[] #[.pointer (some ⟨p, 0, none⟩)]), (7, .pointer (some ⟨r, 0, none⟩))]) (fun _ => H) (fun u => iterO ek3 rInt false HS b r u.1 u.2 :: row p 3 [I now] :: R) (fun u => marks u.1) (ms.map (·, false), none) ⟨by simp [List.map_map, Function.comp_def], fun x hx => by obtain ⟨q, _, rfl⟩ := List.mem_map.1 hx; simp⟩ fun ⟨l, cu⟩ ⟨hf, ht⟩ K hL => ?_
  simp only at hf ht
  dsimp only
  refine walk ?_
  refine ops_next rfl rfl (by repeat (first | exact Has.here | apply Has.there)) (fun hall => ?_) fun pre q post cs hl hcs => ?_
  · clear hL
    refine walk ?_
    refine endnB [mapO ek3 rInt false HS b (ms.filter fun q => !decide (q.2 < now)), row p 3 [I now]] ?_ (hs := ?_)
    · exact ⟨rfl, rfl⟩
    · have e : l.map (·.1) = ms.filter fun q => !decide (q.2 < now) := by
        rw [← hf]
        refine (List.filter_eq_self.2 fun q hq => ?_).symm
        obtain ⟨x, hx, rfl⟩ := List.mem_map.1 hq
        have := ht x hx (hall x hx)
        simpa using this
      refine Sub.trans ?_ (by rw [← e]; exact iter_done (b := b) (r := r) (l := l) (cu := cu))
      (repeat (first | exact Sub.refl _ | exact Sub.nil _ | (apply sub_pick; (repeat (first | exact Has.here | apply Has.there)); skip) | apply Sub.drop))
  · subst hl
    refine walk ?_
    refine ops_entry rfl rfl (by repeat (first | exact Has.here | apply Has.there)) fun cs2 hcs2 => ?_
    obtain ⟨⟨x1, x2, x3⟩, u⟩ := q
    obtain ⟨rfl, hfu⟩ := hcs2
    dsimp only at hfu
    rw [show ek3 ((x1, x2, x3), u).1 = Value.agg #[I x1, I x2, I x3] from rfl, show ofC false [Value.int .i64 ((x1, x2, x3), u).2] = I u from rfl]
    refine walk ?_
    refine ops_alloc rfl fun p4 _ => ?_
    refine walk ?_
    refine ops_callv rfl rfl rfl (gone_spec (p := p) (x := (x1, x2, x3)) (u := u) (now := now)) fun r3 H3 B hl3 ⟨er, eB, eH⟩ => ?_
    subst er eB eH
    refine walk ?_
    refine ex_if rfl (fun hq => ?_) (fun hq => ?_)
    · refine walk ?_
      refine ops_idelete (ky := (x1, x2, x3)) rfl (by repeat (first | exact Has.here | apply Has.there)) rfl ?_
      refine walk ?_
      refine out_next hL (pre ++ post, none) ⟨?_, fun x hx => ?_⟩ (hμ := ?_)
      · rw [← hf]; simp [List.filter_append, hq]
      · exact ht x (by simp only [List.mem_append, List.mem_cons] at hx ⊢; exact hx.elim .inl fun h => .inr (.inr h))
      · have := marks_lt (pre := pre) (post := post) (q := ((x1, x2, x3), u)) (.inr rfl)
        simpa using this
    · refine walk ?_
      refine out_next hL (pre ++ (((x1, x2, x3), u), true) :: post, some pre.length) ⟨?_, fun x hx => ?_⟩ (hμ := ?_)
      · rw [← hf]; simp
      · simp only [List.mem_append, List.mem_cons] at hx
        rcases hx with hx | rfl | hx
        · exact ht x (by simp [hx])
        · exact fun _ => hq
        · exact ht x (by simp [hx])
      · have := marks_lt (pre := pre) (post := post) (q := ((x1, x2, x3), u)) (.inl rfl)
        simpa using this
end Go.Proofs.YtjgjcakeimkkdaaGreatDoor

set_option linter.unusedVariables false
set_option linter.unusedSimpArgs false
namespace Go.Proofs.YtjgjcakeimkkdaaGreatDoor
open Go Go.Sx Go.Proofs
set_option maxHeartbeats 4000000 in
theorem pexpire_spec {W0 : World} {H : Heap} {p : Nat} {s : PS} {now : Int} (hP : PkH H) (hs : TsOk s.t) :
    Ct Tryz.prog 71 #[.pointer (some ⟨p, 0, none⟩), I now] W0 H [partO H p s] (fun r H' B => B = [ownS rStr 1 16 9 H' r (expireL s.t now), partO H' p (expireP s now)]) := by
  refine Ct.go (vs := [.pointer (some ⟨p, 0, none⟩), I now]) fun R => ?_
  refine ex_open (A := partO H p s) (σ := Nat × Nat) (B := fun a => [pRow p a.1 (PS.sh s) a.2, tabO H a.1 (PS.t s), dMap H a.2 s]) (p := fun _ => True) (by repeat (first | exact Has.here | apply Has.there)) (fun h ⟨tp, db, hbig⟩ => ⟨(tp, db), trivial, hbig⟩) fun ⟨tp, db⟩ _ => ?_
  dsimp only
  refine walk ?_
  refine ops_box rfl rfl fun p3 _ => ?_
  refine walk ?_
  refine ops_call rfl rfl (delFunc_spec (W0 := W0) (H := H) (HS := H) (b := db) (p := p3) (ms := s.done) (now := now)) fun r1 H1 B hl1 ⟨eB, eH⟩ => ?_
  subst eB eH
  refine walk ?_
  refine ex_any 6 [pRow p tp s.sh db, row p3 3 [I now]] ?_
  refine stepY 0 ?_; refine stepY 1 ?_; refine stepY 2 ?_; refine stepY 3 ?_; refine stepY 4 ?_
  refine gny_call 5 rfl rfl rfl (expire_spec (W0 := W0) (H := H1) (p := tp) (s := s.t) (now := now) hP hs) fun r2 H2 B hl2 eB => ?_
  subst eB
  refine ⟨(by (repeat (first | exact Sub.refl _ | exact Sub.nil _ | (apply sub_pick; (repeat (first | exact Has.here | apply Has.there)); skip) | apply Sub.drop))), ?_⟩
  refine any_rest rfl ?_
  refine walk ?_
  refine finB [ownS rStr 1 16 9 H2 r2 (expireL s.t now), partO H2 p (expireP s now)] ?_ (hs := ?_)
  · exact rfl
  · refine Sub.trans ?_ (Sub.cons (part_shut (H1 := H2) (H2 := H1) (tp := tp) (db := db) (t := expireT s.t now) (d := s.done.filter fun q => !decide (q.2 < now)) (.refl _) hl2))
    (repeat (first | exact Sub.refl _ | exact Sub.nil _ | (apply sub_pick; (repeat (first | exact Has.here | apply Has.there)); skip) | apply Sub.drop))
end Go.Proofs.YtjgjcakeimkkdaaGreatDoor
