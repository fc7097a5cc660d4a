/- Done and Load, walked. -/
import Derived.Test.YtpphdbnifbjfmaaGreatDoorJKD
import Derived.Test.YtpphdbnifbjfmaaGreatDoorJMR
import Derived.Test.YtpphdbnifbjfmaaGreatDoorJQG
import Derived.Test.YtpphdbnifbjfmaaGreatDoorJQS
import Derived.Test.YtpphdbnifbjfmaaGreatDoorJTH
import Derived.Test.YtpphdbnifbjfmaaGreatDoorJTN
import Derived.Test.YtpphdbnifbjfmaaGreatDoorJXB
set_option linter.unusedVariables false
set_option linter.unusedSimpArgs false
namespace Go.Proofs.YtpphdbnifbjfmaaGreatDoor
open Go Go.Sx Go.Proofs
theorem hear_cases (s : PS) (m : Message) :
    (hearOut s m = [] ∧ hearRec s m = [] ∧ ∀ cs, hearS s m cs = s) ∨
    (forMe s m ∧ m.Kind = 1 ∧ ¬ isD s m.Txn ∧ isP s m.Txn ∧ hearOut s m = [voteM s m true] ∧ hearRec s m = [] ∧ ∀ cs, hearS s m cs = s) ∨
    (forMe s m ∧ m.Kind = 1 ∧ ¬ isD s m.Txn ∧ ¬ isP s m.Txn ∧ prepE s.t m.Txn m.Work = 0 ∧ hearOut s m = [voteM s m true] ∧ hearRec s m = [recP m] ∧ ∀ cs, hearS s m cs = ⟨s.sh, prepT s.t m.Txn m.Work cs, s.done⟩) ∨
    (forMe s m ∧ m.Kind = 1 ∧ ¬ isD s m.Txn ∧ ¬ isP s m.Txn ∧ prepE s.t m.Txn m.Work ≠ 0 ∧ hearOut s m = [voteM s m false] ∧ hearRec s m = [] ∧ ∀ cs, hearS s m cs = s) ∨
    (forMe s m ∧ m.Kind = 3 ∧ isP s m.Txn ∧ hearOut s m = [ackM s m] ∧ hearRec s m = [recA m] ∧ ∀ cs, hearS s m cs = ⟨s.sh, applyT s.t m.Txn m.Yes, if m.Yes = true then mset m.Txn.k (untilS s m.Txn) s.done else s.done⟩) ∨
    (forMe s m ∧ m.Kind = 3 ∧ ¬ isP s m.Txn ∧ hearOut s m = [ackM s m] ∧ hearRec s m = [] ∧ ∀ cs, hearS s m cs = s) := by
  unfold hearOut hearRec hearS
  by_cases hf : forMe s m
  · have hf' : ¬ ¬ forMe s m := fun h => h hf
    simp only [if_neg hf']
    by_cases k : m.Kind = 1
    · simp only [if_pos k]
      by_cases hd : isD s m.Txn
      · simp only [if_pos hd]; exact .inl ⟨(by first | rfl | trivial), (by first | rfl | trivial), (by first | exact fun _ => rfl | trivial | simp)⟩
      · simp only [if_neg hd]
        by_cases hp : isP s m.Txn
        · simp only [if_pos hp]
          exact .inr (.inl ⟨hf, k, hd, hp, by rw [decide_eq_true (p := _ ∨ _) (.inl hp)], (by first | rfl | trivial), (by first | exact fun _ => rfl | trivial | simp)⟩)
        · simp only [if_neg hp]
          by_cases he : prepE s.t m.Txn m.Work = 0
          · simp only [if_pos he]
            exact .inr (.inr (.inl ⟨hf, k, hd, hp, he, by rw [decide_eq_true (p := _ ∨ _) (.inr he)], (by first | rfl | trivial), (by first | exact fun _ => rfl | trivial | simp)⟩))
          · simp only [if_neg he]
            exact .inr (.inr (.inr (.inl ⟨hf, k, hd, hp, he, by rw [decide_eq_false (p := _ ∨ _) (fun h => h.elim hp he)], (by first | rfl | trivial), (by first | exact fun _ => rfl | trivial | simp)⟩)))
    · simp only [if_neg k]
      by_cases k3 : m.Kind = 3
      · simp only [if_pos k3]
        by_cases hp : isP s m.Txn
        · simp only [if_pos hp]
          exact .inr (.inr (.inr (.inr (.inl ⟨hf, k3, hp, (by first | rfl | trivial), (by first | rfl | trivial), (by first | exact fun _ => rfl | trivial | simp)⟩))))
        · simp only [if_neg hp]
          exact .inr (.inr (.inr (.inr (.inr ⟨hf, k3, hp, (by first | rfl | trivial), (by first | rfl | trivial), (by first | exact fun _ => rfl | trivial | simp)⟩))))
      · simp only [if_neg k3]; exact .inl ⟨(by first | rfl | trivial), (by first | rfl | trivial), (by first | exact fun _ => rfl | trivial | simp)⟩
  · simp only [if_pos hf]; exact .inl ⟨(by first | rfl | trivial), (by first | rfl | trivial), (by first | exact fun _ => rfl | trivial | simp)⟩
theorem applyT_P {s : PS} {x : Txn} {yes : Bool} {n : Nat} (I : PInv n s) (k : K3) : gW (applyT s.t x yes) k = if k = x.k then none else gW s.t k := by
  unfold applyT
  by_cases hp : (mget x.k s.t.works).isSome = true
  · rw [if_pos hp]
    exact gW_apply I.t.wd k
  · rw [if_neg hp]
    split
    · next e =>
      subst e
      unfold gW
      cases hm : mget x.k s.t.works with
      | none => rfl
      | some v => rw [hm] at hp; exact absurd rfl hp
    · rfl
def loadD (t : TS) : List (K3 × Int) → List PartDone → Option (List (K3 × Int))
  | m, [] => some m
  | m, d :: l => if (mget d.Txn.k m).isSome = true ∨ (mget d.Txn.k t.works).isSome = true then none else loadD t (mset d.Txn.k d.Until m) l
theorem loadD_ok {t : TS} : ∀ {l : List PartDone} {m : List (K3 × Int)}, (l.map (·.Txn.k)).Nodup → (m.map (·.1)).Nodup → (∀ d ∈ l, mget d.Txn.k m = none ∧ ¬ (mget d.Txn.k t.works).isSome = true) →
    ∃ m', loadD t m l = some m' ∧ (m'.map (·.1)).Nodup ∧ (∀ d ∈ l, mget d.Txn.k m' = some d.Until) ∧ (∀ k, (∀ d ∈ l, d.Txn.k ≠ k) → mget k m' = mget k m) ∧ m'.length ≤ m.length + l.length
  | [], m, _, hm, _ => ⟨m, rfl, hm, fun d hd => (by cases hd), fun k _ => rfl, by simp⟩
  | d :: l, m, hn, hm, hh => by
    simp only [List.map_cons, List.nodup_cons] at hn
    obtain ⟨h1, h2⟩ := hh d (List.mem_cons_self ..)
    have hne : ∀ e ∈ l, e.Txn.k ≠ d.Txn.k := fun e he e1 => hn.1 (List.mem_map.2 ⟨e, he, e1⟩)
    obtain ⟨m', g1, g2, g3, g4, g5⟩ := loadD_ok (t := t) (l := l) (m := mset d.Txn.k d.Until m) hn.2 (mset_nodup hm) fun e he => ⟨by rw [mget_mset, if_neg (hne e he)]; exact (hh e (List.mem_cons_of_mem _ he)).1, (hh e (List.mem_cons_of_mem _ he)).2⟩
    refine ⟨m', ?_, g2, fun e he => ?_, fun k hk => ?_, ?_⟩
    · rw [loadD, if_neg (fun h => h.elim (fun h => by rw [h1] at h; cases h) h2)]; exact g1
    · rcases List.mem_cons.1 he with rfl | he
      · rw [g4 _ hne, mget_mset, if_pos rfl]
      · exact g3 e he
    · rw [g4 k fun e he => hk e (List.mem_cons_of_mem _ he), mget_mset, if_neg fun e => hk d (List.mem_cons_self ..) e.symm]
    · rw [mset_len] at g5
      simp only [List.length_cons]
      split at g5 <;> omega
theorem doneL_len {s : PS} : (doneL s).length = s.done.length := by unfold doneL; rw [List.length_map, sort3_len, List.length_map]
theorem doneL_mem {s : PS} (hn : (s.done.map (·.1)).Nodup) {d : PartDone} : d ∈ doneL s ↔ mget d.Txn.k s.done = some d.Until := by
  refine Iff.trans ?_ ((doneL_spec hn).mem (toR d))
  rw [List.mem_map]
  constructor
  · exact fun h => ⟨d, h, rfl⟩
  · rintro ⟨e, he, h⟩
    have : e = d := by
      obtain ⟨e1, e2⟩ := e
      obtain ⟨d1, d2⟩ := d
      simp only [toR, Convoyref15Done.mk.injEq] at h
      rw [h.1, h.2]
    rw [← this]; exact he
theorem doneL_nodup {s : PS} (hn : (s.done.map (·.1)).Nodup) : ((doneL s).map (·.Txn.k)).Nodup := by
  have h := (doneL_spec hn).rise
  rw [List.pairwise_map] at h
  rw [List.nodup_iff_pairwise_ne, List.pairwise_map]
  refine h.imp fun {a b} hab e => ?_
  have hab' : ltK a.Txn.k b.Txn.k := hab
  rw [e] at hab'
  exact ltK_irr hab'
theorem loadD_own {n n' : Nat} {s : PS} {t : TS} (I : PInv n s) (ht : ∀ k, gW t k = gW s.t k) : ∃ m', loadD t [] (doneL s) = some m' ∧ (m'.map (·.1)).Nodup ∧ (∀ k, mget k m' = mget k s.done) ∧ m'.length ≤ n := by
  obtain ⟨m', g1, g2, g3, g4, g5⟩ := loadD_ok (t := t) (l := doneL s) (m := []) (doneL_nodup I.dd) (by simp) fun d hd => ⟨rfl, fun h => by
    have h1 := I.ap _ _ ((doneL_mem I.dd).1 hd)
    have h2 := gW_some.1 h
    exact h2 ((ht _).trans h1)⟩
  refine ⟨m', g1, g2, fun k => ?_, ?_⟩
  · cases hk : mget k s.done with
    | none =>
      refine (g4 k fun d hd e => ?_).trans rfl
      have := (doneL_mem I.dd).1 hd
      rw [e, hk] at this; cases this
    | some v =>
      have := g3 ⟨toTx k, v⟩ ((doneL_mem I.dd).2 (by show mget (toTx k).k s.done = some v; rw [k_toTx]; exact hk))
      rwa [show (PartDone.mk (toTx k) v).Txn.k = k from k_toTx k] at this
  · have := I.dn; rw [doneL_len] at g5; simpa using Nat.le_trans g5 (by simpa using this)
theorem PSpec.ext {l : List Rec} {f g : K3 → Option Work} (h : PSpec l f) (h' : PSpec l g) (k : K3) : f k = g k := by
  have key : ∀ {f g : K3 → Option Work}, PSpec l f → PSpec l g → ∀ {k w}, f k = some w → g k = some w := fun {f g} h h' {k w} hf => by
    have hm := (h.mem (recW (toTx k) w)).2 ⟨w, by show f (toTx k).k = some w; rw [k_toTx]; exact hf, rfl⟩
    obtain ⟨w', h1, h2⟩ := (h'.mem _).1 hm
    have h1' : g (toTx k).k = some w' := h1
    rw [k_toTx] at h1'
    have : w = w' := congrArg Rec.Work h2
    rw [this]; exact h1'
  cases hf : f k with
  | some w => exact (key h h' hf).symm
  | none =>
    cases hg : g k with
    | none => rfl
    | some w => rw [key h' h hg] at hf; cases hf
theorem rel_self {n : Nat} {s : TS} (I : Inv n s) : Rel s ⟨holdsL s, prepL s⟩ := ⟨holdsL_spec I.hd, prepL_spec I.wd⟩
theorem PInv.loaded {n : Nat} {s : PS} {m : Part} {t' : TS} {d' : List (K3 × Int)} (I : PInv n s) (r : PRel s m) (hi : Inv n t') (hr : Rel t' m.T) (hn : (d'.map (·.1)).Nodup) (hd : ∀ k, mget k d' = mget k s.done) (hl : d'.length ≤ n) : PInv n ⟨s.sh, t', d'⟩ ∧ PRel ⟨s.sh, t', d'⟩ m := by
  have hw := hr.p.ext r.r.p
  refine ⟨⟨hi, hn, hl, fun x v hx => I.dv x v (by rw [← hd]; exact hx), fun x v hx => ?_, I.sh⟩, ⟨r.sh, hr, r.d.congr fun k => (hd k).symm⟩⟩
  show gW t' x = none
  rw [hw]
  exact I.ap x v (by rw [← hd]; exact hx)
structure PN where
  ps : PS
  cs : CS
structure PW where
  ns : List PN
  net : List Message
  now : Int
  log : List PactNote
def nAt (w : PW) (a : Int) : Option PN := if 0 ≤ a then w.ns[a.toNat]? else none
theorem nAt_some {w : PW} {a : Int} {q : PN} : nAt w a = some q ↔ ∃ i : Nat, a = i ∧ ∃ h : i < w.ns.length, w.ns[i] = q := by
  unfold nAt
  constructor
  · intro h
    split at h
    · next h0 =>
      obtain ⟨h1, h2⟩ := List.getElem?_eq_some_iff.1 h
      exact ⟨a.toNat, by omega, h1, h2⟩
    · cases h
  · rintro ⟨i, rfl, h, rfl⟩
    rw [if_pos (by omega), Int.toNat_natCast, List.getElem?_eq_getElem h]
theorem nAt_nat {w : PW} {i : Nat} (h : i < w.ns.length) : nAt w i = some w.ns[i] := nAt_some.2 ⟨i, rfl, h, rfl⟩
theorem nAt_none {w : PW} {a : Int} : nAt w a = none ↔ ¬ (0 ≤ a ∧ a < w.ns.length) := by
  unfold nAt
  split
  · rw [List.getElem?_eq_none_iff]; omega
  · simp; omega
def send1 (l : List Message) (m : Message) : List Message := if l.length < 64 then l ++ [m] else l
def sendL (l ms : List Message) : List Message := ms.foldl send1 l
theorem sendL_eq {l ms : List Message} : sendL l ms = l ++ ms.take (64 - l.length) := by
  induction ms generalizing l with
  | nil => simp [sendL]
  | cons m ms ih =>
    show sendL (send1 l m) ms = _
    rw [ih]
    unfold send1
    split
    · next h =>
      obtain ⟨k, hk⟩ : ∃ k, 64 - l.length = k + 1 := ⟨64 - l.length - 1, by omega⟩
      rw [hk, List.take_succ_cons, List.append_assoc, List.length_append, List.length_singleton, show 64 - (l.length + 1) = k by omega]; rfl
    · next h => rw [show 64 - l.length = 0 by omega, List.take_zero, List.take_zero]
def noteL (p : Int) (l : List Rec) : List PactNote := l.map fun r => ⟨p, r⟩
def delM (l : List Message) (j : Nat) : List Message := l.take j ++ l.drop (j + 1)
def setN (w : PW) (i : Nat) (q : PN) : PW := { w with ns := w.ns.set i q }
theorem nAt_set {w : PW} {i : Nat} {q : PN} (h : i < w.ns.length) {a : Int} : nAt (setN w i q) a = if a = i then some q else nAt w a := by
  unfold nAt setN
  split
  · next h0 =>
    simp only [List.getElem?_set]
    by_cases e : a = i
    · subst e; rw [if_pos rfl, if_pos (by omega)]; simp; omega
    · rw [if_neg e, if_neg (by omega)]
  · next h0 => rw [if_neg (by omega)]
def toPart (m : Message) : Prop := m.Kind = 1 ∨ m.Kind = 3
instance {m : Message} : Decidable (toPart m) := by unfold toPart; infer_instance
inductive PHear (w : PW) (m : Message) : PW → List Message → Prop
  | part (k : toPart m) (i : Nat) (hm : m.To = i) (h : i < w.ns.length) (cs : List Value) : PHear w m { setN w i ⟨hearS w.ns[i].ps m cs, w.ns[i].cs⟩ with log := w.log ++ noteL m.To (hearRec w.ns[i].ps m) } (hearOut w.ns[i].ps m)
  | coord (k : ¬ toPart m) (i : Nat) (hm : m.To = i) (h : i < w.ns.length) : PHear w m { setN w i ⟨w.ns[i].ps, (cHear w.ns[i].cs m).s⟩ with log := w.log ++ noteL m.To (cHear w.ns[i].cs m).rc } (cHear w.ns[i].cs m).out
structure PSame (s s' : PS) : Prop where
  sh : s'.sh = s.sh
  w : ∀ k, gW s'.t k = gW s.t k
  h : ∀ k, mget k s'.t.held = mget k s.t.held
  d : ∀ k, mget k s'.done = mget k s.done
def crashC (c : CS) : CS := ⟨c.node, c.life + 1, 0, loadTs (openL c) []⟩
inductive PCrash (n : Nat) (w : PW) (i : Nat) : PW → Prop
  | mk (h : i < w.ns.length) (s' : PS) (hs : PSame w.ns[i].ps s') (hI : PInv n s') : PCrash n w i { setN w i ⟨s', crashC w.ns[i].cs⟩ with net := Net.clr i w.net }
def askL (s : PS) : List Message := (prepL s.t).map fun q => askM s q.Txn
def saidB (s : CS) (now : Int) (ws : List (Int × CW)) : List Message := if ws = [] then [] else againL s.node (newX s) (beganT now ws)
def isNode (w : PW) (a : Int) : Prop := 0 ≤ a ∧ a < w.ns.length
def okMv (w : PW) (k a : Int) (n : Nat) : Prop := (k = 1 ∧ isNode w a ∧ n ≤ w.ns.length) ∨ ((k = 5 ∨ k = 7) ∧ isNode w a) ∨ (k = 6 ∧ 0 ≤ a ∧ a ≤ 1073741824 - w.now) ∨ k = 2 ∨ k = 3 ∨ k = 4 ∨ k = 8
def inN (l : List Message) (a : Int) : Prop := 0 ≤ a ∧ a < l.length
inductive PPlay (n : Nat) (w : PW) (k a : Int) (works : List Work) : PW → Int → Prop
  | bad (h : ¬ okMv w k a works.length) : PPlay n w k a works w 1
  | begin (hk : k = 1) (i : Nat) (ha : a = i) (h : i < w.ns.length) (hn : works.length ≤ w.ns.length) (ws : List (Int × CW)) (hw : pq ws = works0 0 works) :
      PPlay n w k a works { setN w i ⟨w.ns[i].ps, beginS w.ns[i].cs w.now ws⟩ with net := sendL w.net (saidB w.ns[i].cs w.now ws) } (if ws = [] then 4 else 0)
  | none (hk : k = 2 ∨ k = 3 ∨ k = 4 ∨ k = 8) (h : ¬ inN w.net a) : PPlay n w k a works w 4
  | deliver (hk : k = 2) (j : Nat) (ha : a = j) (h : j < w.net.length) (w' : PW) (out : List Message) (hh : PHear { w with net := delM w.net j } w.net[j] w' out) : PPlay n w k a works { w' with net := sendL w'.net out } 0
  | fail (hk : k = 8) (j : Nat) (ha : a = j) (h : j < w.net.length) (w' w'' : PW) (out : List Message) (hh : PHear { w with net := delM w.net j } w.net[j] w' out) (i : Nat) (hi : w.net[j].To = i) (hc : PCrash n w' i w'') : PPlay n w k a works w'' 0
  | drop (hk : k = 3) (j : Nat) (ha : a = j) (h : j < w.net.length) : PPlay n w k a works { w with net := delM w.net j } 0
  | copy (hk : k = 4) (j : Nat) (ha : a = j) (h : j < w.net.length) (hf : w.net.length < 64) : PPlay n w k a works { w with net := w.net ++ [w.net[j]] } 0
  | full (hk : k = 4) (j : Nat) (ha : a = j) (h : j < w.net.length) (hf : ¬ w.net.length < 64) : PPlay n w k a works w 5
  | step (hk : k = 5) (i : Nat) (ha : a = i) (h : i < w.ns.length) : PPlay n w k a works { setN w i ⟨w.ns[i].ps, stepS w.ns[i].cs w.now⟩ with net := sendL (sendL w.net (stepOut w.ns[i].cs w.now)) (askL w.ns[i].ps) } 0
  | tick (hk : k = 6) (h0 : 0 ≤ a) (h : a ≤ 1073741824 - w.now) : PPlay n w k a works { w with now := w.now + a } 0
  | crash (hk : k = 7) (i : Nat) (ha : a = i) (h : i < w.ns.length) (w' : PW) (hc : PCrash n w i w') : PPlay n w k a works w' 0
theorem PInv.dfit {n : Nat} {s : PS} (h : PInv n s) (k : K3) : fits ((mget k s.done).getD 0) := by
  cases hg : mget k s.done with
  | none => exact fits0
  | some v => exact (h.dv k v hg).2
set_option maxHeartbeats 4000000 in
theorem doneP_spec {W0 : World} {H Ht Hd : Heap} {p n tp db : Nat} {s : PS} (I0 : PInv n s) (hn : n ≤ 1000) (hlt : Ht.le H) (hld : Hd.le H) :
    Ct Tryz.prog 40 #[.pointer (some ⟨p, 0, none⟩)] W0 H [pRow p tp s.sh db, tabO Ht tp s.t, dMap Hd db s] (fun r H' B => B = [ownS rPartDone 4 32 157 H' r (doneL s), pRow p tp s.sh db, tabO Ht tp s.t, dMap Hd db s]) := by
  refine Ct.go (vs := [.pointer (some ⟨p, 0, none⟩)]) fun R => ?_
  have hwf : ∀ q ∈ s.done, fits q.1.1 ∧ fits q.1.2.1 ∧ fits q.1.2.2 := fun q hq => (I0.dv q.1 q.2 (mget_of_mem I0.dd hq)).1
  have hdn := I0.dn
  refine walk ?_
  refine ops_call rfl rfl ct_keys3D fun r1 H1 B hl1 ⟨pk, er, eB, eH⟩ => ?_
  subst er eB eH
  have hc := ct_sorted3D (W0 := W0) (H := H1) (H0 := Hd) (RV := rInt) (ag := false) (p := pk) (b := db) (ms := s.done) hwf (by simp only [cap47]; omega)
  refine ops_call rfl rfl hc fun r2 H2 B hl2 ⟨eB, eH⟩ => ?_
  subst eB eH
  have hlen : (sort3 (s.done.map (·.1))).length = s.done.length := by rw [sort3_len, List.length_map]
  have hmem : ∀ k ∈ sort3 (s.done.map (·.1)), fits k.1 ∧ fits k.2.1 ∧ fits k.2.2 := fun k hk => by
    obtain ⟨q, hq, rfl⟩ := List.mem_map.1 (mem_sort3.1 hk)
    exact hwf q hq
  unfold doneL
  generalize sort3 (s.done.map (·.1)) = ks at *
  refine ops_freeze r2 fun H3 hl3 hsl => ?_
  obtain ⟨b0, c0, rfl, hc0, hd0⟩ := hsl.1.shape
  have hlx : (ks.map toTx).length = ks.length := by simp
  refine walk ?_
  refine ex_loop (σ := Nat × Option Addr × Nat) (fun u => u.1 ≤ ks.length) (fun u => [(0, .pointer (some ⟨p, 0, none⟩)), (11, .slice b0 (ks.map toTx).length c0), (12, I (ks.map toTx).length), (13, I u.1), (3, .slice u.2.1 ((ks.take u.1).map (doneOf s)).length u.2.2)]) (fun _ => H3)
    (fun u => ownS rPartDone 4 32 157 H3 (.slice u.2.1 ((ks.take u.1).map (doneOf s)).length u.2.2) ((ks.take u.1).map (doneOf s)) :: pRow p tp s.sh db :: tabO Ht tp s.t :: dMap Hd db s :: R) (fun u => ks.length - u.1) (0, none, 0) (Nat.zero_le _) (hs0 := ?_) fun ⟨k, d, e⟩ hk0 K hL => ?_
  rotate_left
  · simp only [List.take_zero, List.map_nil, List.length_nil]
    refine Sub.trans ?_ ownS_nil
    exact subA
  simp only at hk0
  dsimp only
  have hll : ((ks.take k).map (doneOf s)).length = k := by simp; omega
  refine walk ?_
  refine ex_if rfl (fun hk => ?_) (fun hk => ?_)
  · have hk1 : k < ks.length := by omega
    have ht := List.take_succ_eq_append_getElem hk1
    refine walk ?_
    refine ops_ixp rfl rfl hsl.1 (show k < (ks.map toTx).length by simpa using hk1) fun b o c hr hc => ?_
    have hx : (ks.map toTx)[k]'(by simpa using hk1) = toTx ks[k] := by simp
    rw [hx] at hc
    have hkm := hmem ks[k] (List.getElem_mem hk1)
    have hfd := I0.dfit ks[k]
    have hse : (ks.take k).map (doneOf s) ++ [doneOf s ks[k]] = (ks.take (k + 1)).map (doneOf s) := by rw [ht, List.map_append]; rfl
    have hsl2 : ((ks.take k).map (doneOf s)).length + 1 = ((ks.take (k + 1)).map (doneOf s)).length := by rw [← hse]; simp
    obtain ⟨rfl, _⟩ := hc
    generalize ks[k] = kk at *
    obtain ⟨ka, kb, kc⟩ := kk
    dsimp only at hkm
    change HRow H3 b o [I ka, I kb, I kc] at hr
    refine walk ?_
    refine ops_ldNH rfl rfl hr rfl ?_
    refine ops_alloc rfl fun p5 _ => ?_
    refine walk ?_
    refine ex_any 11 [pRow p tp s.sh db, row p5 45 [I ka, I kb, I kc], dMap Hd db s] ?_
    refine stepY 0 ?_; refine stepY 1 ?_; refine stepY 2 ?_; refine stepY 3 ?_; refine stepY 4 ?_; refine stepY 5 ?_; refine stepY 6 ?_
    refine gny_lkA (RV := rInt) (ag := false) (z := 0) 7 rfl rfl rfl (by repeat (first | exact Has.here | apply Has.there)) ?_
    refine stepY 8 ?_
    refine any_app1 (y := doneOf s (ka, kb, kc)) 9 10 rfl rfl rfl ⟨rfl, hkm.1, hkm.2.1, hkm.2.2, hfd⟩ (by rw [hll]; simp only [cap47]; omega) fun d3 e3 => ⟨subA, ?_⟩
    rw [hsl2, hse]
    refine any_rest rfl ?_
    refine walk ?_
    exact out_next hL (k + 1, d3, e3) (by simp only; omega)
  · clear hL
    obtain rfl : k = ks.length := by omega
    refine walk ?_
    rw [List.take_length] at *
    refine finB [ownS rPartDone 4 32 157 H3 (.slice d (ks.map (doneOf s)).length e) (ks.map (doneOf s)), pRow p tp s.sh db, tabO Ht tp s.t, dMap Hd db s] ?_
    exact rfl
def PLoadQ (sh : Int) (s' : TS) (dones : List PartDone) (p : Nat) (r : Value) (H' : Heap) (B : List HProp) : Prop :=
  (loadD s' [] dones = none ∧ r = .tuple #[nilP, I 2] ∧ B = []) ∨ ∃ d, loadD s' [] dones = some d ∧ r = .tuple #[.pointer (some ⟨p, 0, none⟩), I 0] ∧ B = [partO H' p ⟨sh, s', d⟩]
set_option maxHeartbeats 8000000 in
set_option maxRecDepth 20000 in
theorem pload_spec {W0 : World} {H : Heap} {sh : Int} {v1 v2 v3 : Value} {holds : List Hold} {prep : List Rec} {dones : List PartDone} (h1 : SlB rHold 2 24 H v1 holds) (h2 : SlB rRec 9 120 H v2 prep) (h3 : SlB rPartDone 4 32 H v3 dones) (hp : prep.length ≤ 1000000) (hw : ∀ q ∈ prep, q.Work.ks.length * 16 ≤ cap47)
    (hok : ∀ s' a', LoadP (holdF holds) (loadH [] 0 holds).2 prep s' a' → lastE a' prep = 0 ∧ TsOk s' ∧ (s'.works.map (·.1)).Nodup) :
    Ct Tryz.prog 38 #[I sh, v1, v2, v3] W0 H [] (fun r H' B => ∃ s' a' p, LoadP (holdF holds) (loadH [] 0 holds).2 prep s' a' ∧ PLoadQ sh s' dones p r H' B) := by
  refine Ct.go (vs := [I sh, v1, v2, v3]) fun R => ?_
  obtain ⟨b1, c1, rfl, hc1, hd1⟩ := h1.1.shape
  obtain ⟨b2, c2, rfl, hc2, hd2⟩ := h2.1.shape
  obtain ⟨b3, c3, rfl, hc3, hd3⟩ := h3.1.shape
  refine walk ?_
  refine ops_call rfl rfl (load_spec (W0 := W0) (H := H) h1 h2 hp hw) fun r1 H1 B hl1 ⟨s', a', tp, hLP, hlast⟩ => ?_
  obtain ⟨g1, g2, g3⟩ := hok s' a' hLP
  rw [if_pos g1] at hlast
  obtain ⟨er, eB⟩ := hlast
  subst er eB
  refine walk ?_
  refine ops_makeMap ek3 rInt false rfl fun db _ => ?_
  refine walk ?_
  refine ops_box rfl rfl fun p _ => ?_
  refine walk ?_
  generalize hT : loadD s' [] dones = T
  refine ex_loop (σ := Nat × List (K3 × Int) × Heap) (fun u => u.1 ≤ dones.length ∧ loadD s' u.2.1 (dones.drop u.1) = T ∧ H1.le u.2.2) (fun u => [(12, .pointer (some ⟨p, 0, none⟩)), (31, .slice b3 dones.length c3), (32, I dones.length), (33, I u.1)]) (fun u => u.2.2) (fun u => partO u.2.2 p ⟨sh, s', u.2.1⟩ :: R) (fun u => dones.length - u.1) (0, [], H1) ⟨Nat.zero_le _, hT, .refl _⟩ (hs0 := ?_) fun ⟨k, d, HK⟩ ⟨hk0, hF, hlK⟩ K hL => ?_
  rotate_left
  · refine Sub.trans ?_ (part_shut (H1 := H1) (H2 := H1) (tp := tp) (db := db) (.refl _) (.refl _))
    exact subA
  simp only at hk0 hF hlK
  dsimp only
  refine walk ?_
  refine ex_if rfl (fun hk => ?_) (fun hk => ?_)
  · have hk1 : k < dones.length := by omega
    rw [List.drop_eq_getElem_cons hk1] at hF
    unfold loadD at hF
    refine ex_open (A := partO HK p ⟨sh, s', d⟩) (σ := Nat × Nat) (B := fun a => [pRow p a.1 (PS.sh ⟨sh, s', d⟩) a.2, tabO HK a.1 (PS.t ⟨sh, s', d⟩), dMap HK a.2 ⟨sh, s', d⟩]) (p := fun _ => True) (by repeat (first | exact Has.here | apply Has.there)) (fun h ⟨tp, db, hbig⟩ => ⟨(tp, db), trivial, hbig⟩) fun ⟨tp, db⟩ _ => ?_
    dsimp only
    refine walk ?_
    refine ops_ixp rfl rfl (h3.mono (hl1.trans hlK)).1 hk1 fun b o c hr hc => ?_
    obtain ⟨rfl, hc1, hc2, hc3, hc4⟩ := hc
    generalize dones[k] = q at hr hc1 hc2 hc3 hc4 hF
    obtain ⟨⟨x1, x2, x3⟩, du⟩ := q
    dsimp only at hr hc1 hc2 hc3 hc4 hF
    change HRow HK b o [I x1, I x2, I x3, I du] at hr
    refine walk ?_
    refine ops_ldNH rfl rfl hr rfl ?_
    refine ops_alloc rfl fun p14 _ => ?_
    refine walk ?_
    refine ops_lkA2 (RV := rInt) (ag := false) (z := 0) rfl rfl (by repeat (first | exact Has.here | apply Has.there)) ?_
    dsimp only
    change (if (mget (x1, x2, x3) d).isSome = true ∨ (mget (x1, x2, x3) s'.works).isSome = true then none else loadD s' (mset (x1, x2, x3) du d) (dones.drop (k + 1))) = T at hF
    by_cases htw : (mget (x1, x2, x3) d).isSome = true
    · rw [if_pos (.inl htw)] at hF
      rw [htw]
      refine walk ?_
      refine fin0 ?_
      exact ⟨s', a', 0, hLP, .inl ⟨by rw [hT, hF], rfl, rfl⟩⟩
    have htw' : (mget (x1, x2, x3) d).isSome = false := by simpa using htw
    rw [htw']
    refine walk ?_
    refine ops_L (L' := partO HK p ⟨sh, s', d⟩ :: row p14 157 [I x1, I x2, I x3, I du] :: R) ?_ ?_
    · refine Sub.trans ?_ (part_shut (H1 := HK) (H2 := HK) (tp := tp) (db := db) (.refl _) (.refl _))
      exact subA
    refine ops_call rfl rfl (is_spec (W0 := W0) (H := HK) (p := p) (s := ⟨sh, s', d⟩) (x := ⟨x1, x2, x3⟩) g2 g3) fun r2 H2 B hl2 ⟨er, eB⟩ => ?_
    subst er eB
    refine walk ?_
    refine ex_if rfl (fun hq => ?_) (fun hq => ?_)
    · have hq' : (mget (x1, x2, x3) s'.works).isSome = true := hq
      rw [if_pos (.inr hq')] at hF
      refine walk ?_
      refine fin0 ?_
      exact ⟨s', a', 0, hLP, .inl ⟨by rw [hT, hF], rfl, rfl⟩⟩
    have hq' : ¬ (mget (x1, x2, x3) s'.works).isSome = true := hq
    rw [if_neg (fun h => h.elim htw hq')] at hF
    refine ex_open (A := partO H2 p ⟨sh, s', d⟩) (σ := Nat × Nat) (B := fun a => [pRow p a.1 (PS.sh ⟨sh, s', d⟩) a.2, tabO H2 a.1 (PS.t ⟨sh, s', d⟩), dMap H2 a.2 ⟨sh, s', d⟩]) (p := fun _ => True) (by repeat (first | exact Has.here | apply Has.there)) (fun h ⟨tp, db, hbig⟩ => ⟨(tp, db), trivial, hbig⟩) fun ⟨tp, db⟩ _ => ?_
    dsimp only
    refine walk ?_
    refine ex_any 8 [pRow p tp sh db, row p14 157 [I x1, I x2, I x3, I du]] ?_
    refine stepY 0 ?_; refine stepY 1 ?_; refine stepY 2 ?_; refine stepY 3 ?_; refine stepY 4 ?_; refine stepY 5 ?_; refine stepY 6 ?_; refine stepY 7 ?_
    refine any_rest rfl ?_
    refine ops_update (RV := rInt) (ag := false) (cs := [I du]) (u := du) rfl rfl ⟨rfl, hc4⟩ (by repeat (first | exact Has.here | apply Has.there)) ?_
    refine walk ?_
    refine out_next hL (k + 1, mset (x1, x2, x3) du d, H2) ⟨by simp only; omega, hF, hlK.trans hl2⟩ (hs := ?_)
    refine Sub.trans ?_ (part_shut (H1 := H2) (H2 := H2) (tp := tp) (db := db) (.refl _) (.refl _))
    exact subA
  · clear hL
    obtain rfl : k = dones.length := by omega
    rw [List.drop_length] at hF
    unfold loadD at hF
    refine walk ?_
    refine finB [partO HK p ⟨sh, s', d⟩] ?_
    exact ⟨s', a', p, hLP, .inr ⟨d, by rw [hT, hF], rfl, rfl⟩⟩
end Go.Proofs.YtpphdbnifbjfmaaGreatDoor
