/- Small things of keys and their order, where a seat has no table. A coordinator: what it holds, what it answers, what it keeps to. No program in sight. What a coordinator keeps to is kept. No program in sight. The reference's coordinator goes along. No program in sight. The reference's coordinator: what it answers, and that it goes along. No program in sight. A coordinator is loaded; decisions. No program in sight. -/
import Derived.Test.YthoafjeampbkeaaN1
import Derived.Test.YthoafjeampbkeaaKC
import Derived.Test.YthoafjeampbkeaaKD
set_option linter.unusedVariables false
set_option linter.unusedSimpArgs false
namespace Go.Proofs.Ythoafjeampbkeaa
open Go Go.Sx Go.Proofs
/-- a transaction as a key -/
def Txn.k (x : Txn) : K3 := (x.Node, x.Life, x.Count)
theorem toTx_k (x : Txn) : toTx x.k = x := rfl
theorem k_toTx (k : K3) : (toTx k).k = k := rfl
/-- a work with its cells -/
abbrev CW := List Value × Work
def rCW : Rd CW := fun H cs v => cs = v.1 ∧ rWork H cs v.2
instance : RdOk rCW 3 := ⟨fun ⟨e, h⟩ => RdOk.len h, fun ⟨e, h⟩ => RdOk.one h, fun hl ⟨e, h⟩ => ⟨e, RdOk.mono hl h⟩⟩
def zCW : CW := ([.int .i64 0, nilS, nilS], zWork)
instance : RVal rCW true (fun v => .agg v.1.toArray) := ⟨fun ⟨e, _⟩ => by subst e; rfl⟩
instance : RVal rTxn true (fun v => .agg v.cv.toArray) := ⟨fun ⟨e, _⟩ => by subst e; rfl⟩
instance : RVal rInt false (fun v => .int .i64 v) := ⟨fun ⟨e, _⟩ => by subst e; rfl⟩
theorem mem_sort3 {l : List K3} {k : K3} : k ∈ sort3 l ↔ k ∈ l := by unfold sort3; exact List.mem_mergeSort
theorem rise_eq {α : Type} {lt : α → α → Prop} (irr : ∀ a, ¬ lt a a) (asy : ∀ a b, lt a b → ¬ lt b a) : ∀ {l l' : List α}, l.Pairwise lt → l'.Pairwise lt → (∀ a, a ∈ l ↔ a ∈ l') → l = l'
  | [], [], _, _, _ => rfl
  | [], b :: l', _, _, h => absurd ((h b).2 (by simp)) (by simp)
  | a :: l, [], _, _, h => absurd ((h a).1 (by simp)) (by simp)
  | a :: l, b :: l', h1, h2, h => by
    rw [List.pairwise_cons] at h1 h2
    have hab : a = b := by
      rcases List.mem_cons.1 ((h a).1 (by simp)) with e | e
      · exact e
      · rcases List.mem_cons.1 ((h b).2 (by simp)) with e' | e'
        · exact e'.symm
        · exact absurd (h1.1 b e') (asy _ _ (h2.1 a e))
    subst hab
    refine congrArg _ (rise_eq irr asy h1.2 h2.2 fun x => ?_)
    have hx := h x
    simp only [List.mem_cons] at hx
    constructor
    · intro hm
      rcases hx.1 (.inr hm) with e | e
      · subst e; exact absurd (h1.1 x hm) (irr x)
      · exact e
    · intro hm
      rcases hx.2 (.inr hm) with e | e
      · subst e; exact absurd (h2.1 x hm) (irr x)
      · exact e
theorem mget_iff {κ ν : Type} [DecidableEq κ] {m : List (κ × ν)} (hn : (m.map (·.1)).Nodup) {k : κ} {v : ν} : mget k m = some v ↔ (k, v) ∈ m := ⟨mget_mem, mget_of_mem hn⟩
theorem mget_key {κ ν : Type} [DecidableEq κ] {m : List (κ × ν)} {k : κ} : k ∈ m.map (·.1) ↔ ∃ v, mget k m = some v := by
  have h := mget_none (k := k) (m := m)
  cases hm : mget k m with
  | none => exact ⟨fun h' => absurd h' (h.1 hm), fun ⟨v, e⟩ => (by cases e)⟩
  | some v => exact ⟨fun _ => ⟨v, rfl⟩, fun _ => Classical.byContradiction fun hc => by rw [h.2 hc] at hm; cases hm⟩
theorem ltK_irr {a : K3} : ¬ ltK a a := by unfold ltK; omega
theorem ltK_asy {a b : K3} (h : ltK a b) : ¬ ltK b a := by unfold ltK at *; omega
theorem ltK_trans {a b c : K3} (h : ltK a b) (h' : ltK b c) : ltK a c := by unfold ltK at *; omega
theorem k_inj {x y : Txn} (h : x.k = y.k) : x = y := by
  have := congrArg toTx h
  rwa [toTx_k, toTx_k] at this
theorem sort3_rise {xs : List K3} (h : xs.Nodup) : (sort3 xs).Pairwise ltK := by
  have tr : ∀ a b c : K3, (!(ltOf ordI) b a) = true → (!(ltOf ordI) c b) = true → (!(ltOf ordI) c a) = true := fun a b c h1 h2 => by
    simp only [Bool.not_eq_true', ← Bool.not_eq_true, ltOf_iff] at *
    unfold ltK at *
    omega
  have to : ∀ a b : K3, ((!(ltOf ordI) b a) || (!(ltOf ordI) a b)) = true := fun a b => by
    simp only [Bool.or_eq_true, Bool.not_eq_true', ← Bool.not_eq_true, ltOf_iff]
    unfold ltK
    omega
  have h1 := List.pairwise_mergeSort tr to xs
  have h2 : (xs.mergeSort fun x y => !(ltOf ordI) y x).Nodup := (List.mergeSort_perm _ _).nodup_iff.2 h
  rw [List.nodup_iff_pairwise_ne] at h2
  unfold sort3
  refine (h1.and h2).imp fun {a b} ⟨e1, e2⟩ => ?_
  simp only [Bool.not_eq_true', ← Bool.not_eq_true, ltOf_iff] at e1
  refine Classical.byContradiction fun h3 => e2 (ltK_tot h3 e1)
theorem mdel_nodup {κ ν : Type} [DecidableEq κ] {m : List (κ × ν)} {k : κ} (h : (m.map (·.1)).Nodup) : ((mdel k m).map (·.1)).Nodup := h.sublist ((mdel_sub k m).map _)
theorem mdel_len {κ ν : Type} [DecidableEq κ] {m : List (κ × ν)} {k : κ} : (mdel k m).length ≤ m.length := (mdel_sub k m).length_le
end Go.Proofs.Ythoafjeampbkeaa

set_option linter.unusedVariables false
set_option linter.unusedSimpArgs false
namespace Go.Proofs.Ythoafjeampbkeaa
open Go Go.Sx Go.Proofs
/-- a transaction that is voting or open -/
structure TX where
  op : Bool
  began : Int
  parts : List Int
  works : List (Int × CW)
  heard : List (Int × Int)
/-- what a coordinator holds -/
structure CS where
  node : Int
  life : Int
  count : Int
  ts : List (K3 × TX)
abbrev RecM := Rec
def TX.hd (t : TX) (p : Int) : Bool := (mget p t.heard).isSome
def TX.wk (t : TX) (p : Int) : Work := ((mget p t.works).getD zCW).2
def prepM (n : Int) (x : Txn) (p : Int) (w : Work) : Message := { zMessage with From := n, To := p, Kind := 1, Txn := x, Work := w }
def decM (n : Int) (x : Txn) (p : Int) (y : Bool) : Message := { zMessage with From := n, To := p, Kind := 3, Txn := x, Yes := y }
def saidM (n : Int) (x : Txn) (t : TX) (p : Int) : Message := if t.op = true then decM n x p true else prepM n x p (t.wk p)
def againL (n : Int) (x : Txn) (t : TX) : List Message := (t.parts.filter fun p => !t.hd p).map (saidM n x t)
def noL (n : Int) (x : Txn) (t : TX) : List Message := t.parts.map fun p => decM n x p false
def outcM (x : Txn) (y d : Bool) : CoordOutcome := ⟨x, y, d⟩
def recC (x : Txn) (ps : List Int) : Rec := ⟨4, x, zWork, false, ps⟩
def recE (x : Txn) : Rec := ⟨5, x, zWork, false, []⟩
/-- works of a call that begins one -/
def works0 (i : Int) : List Work → List (Int × Work)
  | [] => []
  | w :: l => if 0 < w.Take.length + w.Drop.length then (i, w) :: works0 (i + 1) l else works0 (i + 1) l
theorem works0_lt {i : Int} : ∀ {l : List Work} {j : Int}, i ≤ j → ∀ q ∈ works0 j l, i ≤ q.1 ∧ q.1 < j + l.length
  | [], j, _, q, h => by cases h
  | w :: l, j, hj, q, h => by
    unfold works0 at h
    simp only [List.length_cons]
    split at h
    · rcases List.mem_cons.1 h with rfl | h
      · simp only; omega
      · have := works0_lt (i := i) (l := l) (j := j + 1) (by omega) q h; omega
    · have := works0_lt (i := i) (l := l) (j := j + 1) (by omega) q h; omega
theorem works0_rise : ∀ {l : List Work} {j : Int}, ((works0 j l).map (·.1)).Pairwise (· < ·)
  | [], j => by simp [works0]
  | w :: l, j => by
    unfold works0
    split
    · rw [List.map_cons, List.pairwise_cons]
      refine ⟨fun a ha => ?_, works0_rise⟩
      obtain ⟨q, hq, rfl⟩ := List.mem_map.1 ha
      have := works0_lt (i := j + 1) (Int.le_refl _) q hq
      omega
    · exact works0_rise
/-- a transaction that begins -/
def beganT (now : Int) (ws : List (Int × CW)) : TX := ⟨false, now, ws.map (·.1), ws, []⟩
def CS.put (s : CS) (k : K3) (t : TX) : CS := ⟨s.node, s.life, s.count, mset k t s.ts⟩
def CS.cut (s : CS) (k : K3) : CS := ⟨s.node, s.life, s.count, mdel k s.ts⟩
def newX (s : CS) : Txn := ⟨s.node, s.life, s.count + 1⟩
def beginS (s : CS) (now : Int) (ws : List (Int × CW)) : CS := if ws = [] then s else ⟨s.node, s.life, s.count + 1, mset (newX s).k (beganT now ws) s.ts⟩
def beginOut (s : CS) (ws : List (Int × Work)) : List Message := ws.map fun q => prepM s.node (newX s) q.1 q.2
/-- a message for it -/
def forC (s : CS) (m : Message) : Prop := m.To = s.node ∧ m.Txn.Node = s.node
instance {s : CS} {m : Message} : Decidable (forC s m) := by unfold forC; infer_instance
def zTX : TX := ⟨false, 0, [], [], []⟩
def CS.isT (s : CS) (x : Txn) : Prop := (mget x.k s.ts).isSome = true
instance {s : CS} {x : Txn} : Decidable (s.isT x) := by unfold CS.isT; infer_instance
def CS.tx (s : CS) (x : Txn) : TX := (mget x.k s.ts).getD zTX
def CS.isPart (s : CS) (m : Message) : Prop := s.isT m.Txn ∧ m.From ∈ (s.tx m.Txn).parts
instance {s : CS} {m : Message} : Decidable (s.isPart m) := by unfold CS.isPart; infer_instance
def hear1 (t : TX) (p : Int) : TX := { t with heard := mset p 1 t.heard }
def allHeard (t : TX) : Prop := t.parts.length ≤ t.heard.length
instance {t : TX} : Decidable (allHeard t) := by unfold allHeard; infer_instance
def openT (t : TX) : TX := ⟨true, t.began, t.parts, [], []⟩
structure CAns where
  s : CS
  out : List Message
  rc : List Rec
  oc : List CoordOutcome
def cHear (s : CS) (m : Message) : CAns :=
  if ¬ forC s m then ⟨s, [], [], []⟩ else
  if m.Kind = 5 ∧ (¬ s.isT m.Txn ∨ (s.tx m.Txn).op = true) then ⟨s, [decM s.node m.Txn m.From (decide (s.isT m.Txn))], [], []⟩ else
  if m.Kind = 2 ∧ s.isPart m ∧ (s.tx m.Txn).op = false ∧ m.Yes = false then ⟨s.cut m.Txn.k, noL s.node m.Txn (s.tx m.Txn), [], [outcM m.Txn false false]⟩ else
  if m.Kind = 2 ∧ s.isPart m ∧ (s.tx m.Txn).op = false then
    (if ¬ allHeard (hear1 (s.tx m.Txn) m.From) then ⟨s.put m.Txn.k (hear1 (s.tx m.Txn) m.From), [], [], []⟩
     else ⟨s.put m.Txn.k (openT (s.tx m.Txn)), againL s.node m.Txn (openT (s.tx m.Txn)), [recC m.Txn (s.tx m.Txn).parts], [outcM m.Txn true false]⟩) else
  if m.Kind = 4 ∧ s.isPart m ∧ (s.tx m.Txn).op = true then
    (if ¬ allHeard (hear1 (s.tx m.Txn) m.From) then ⟨s.put m.Txn.k (hear1 (s.tx m.Txn) m.From), [], [], []⟩
     else ⟨s.cut m.Txn.k, [], [recE m.Txn], [outcM m.Txn true true]⟩) else
  ⟨s, [], [], []⟩
/-- so many ticks have gone by -/
def lateT (began now : Int) : Prop := began ≤ now ∧ 8 ≤ now - began
instance {a b : Int} : Decidable (lateT a b) := by unfold lateT; infer_instance
def gaveUp (t : TX) (now : Int) : Prop := t.op = false ∧ lateT t.began now
instance {t : TX} {now : Int} : Decidable (gaveUp t now) := by unfold gaveUp; infer_instance
def allC (s : CS) : List K3 := sort3 (s.ts.map (·.1))
def stepOut1 (s : CS) (now : Int) (k : K3) : List Message :=
  if gaveUp ((mget k s.ts).getD zTX) now then noL s.node (toTx k) ((mget k s.ts).getD zTX) else againL s.node (toTx k) ((mget k s.ts).getD zTX)
def stepOut (s : CS) (now : Int) : List Message := (allC s).flatMap (stepOut1 s now)
def stepOc (s : CS) (now : Int) : List CoordOutcome := ((allC s).filter fun k => decide (gaveUp ((mget k s.ts).getD zTX) now)).map fun k => outcM (toTx k) false false
def stepS (s : CS) (now : Int) : CS := ⟨s.node, s.life, s.count, s.ts.filter fun q => !decide (gaveUp q.2 now)⟩
def votingL (s : CS) : List Txn := ((allC s).filter fun k => !((mget k s.ts).getD zTX).op).map toTx
def openL (s : CS) : List Rec := ((allC s).filter fun k => ((mget k s.ts).getD zTX).op).map fun k => recC (toTx k) ((mget k s.ts).getD zTX).parts
/-- what a transaction keeps to -/
structure TInv (t : TX) : Prop where
  ne : t.parts ≠ []
  rise : t.parts.Pairwise (· < ·)
  nn : ∀ p ∈ t.parts, 0 ≤ p ∧ fits p
  hn : (t.heard.map (·.1)).Nodup
  hp : ∀ q ∈ t.heard, q.1 ∈ t.parts ∧ q.2 = 1
  hl : t.heard.length < t.parts.length
  wk : t.op = false → t.works.map (·.1) = t.parts
  bg : fits t.began
structure CInv (n : Nat) (s : CS) : Prop where
  nd : (s.ts.map (·.1)).Nodup
  ln : s.ts.length ≤ n
  ti : ∀ k t, mget k s.ts = some t → TInv t
  kn : ∀ k t, mget k s.ts = some t → k.1 = s.node ∧ fits k.2.1 ∧ fits k.2.2 ∧ k.2.1 ≤ s.life ∧ (k.2.1 = s.life → 1 ≤ k.2.2 ∧ k.2.2 ≤ s.count)
  c0 : 0 ≤ s.count ∧ s.count ≤ n
  fn : fits s.node
  fl : fits s.life
theorem CInv.more {n n' : Nat} {s : CS} (h : CInv n s) (hn : n ≤ n') : CInv n' s := { h with ln := Nat.le_trans h.ln hn, c0 := by have := h.c0; omega }
theorem cinv0 {node life : Int} (h : fits node) (h2 : fits life) : CInv 0 ⟨node, life, 0, []⟩ := ⟨by simp, by simp, fun k t h => (by cases h), fun k t h => (by cases h), by simp, h, h2⟩
theorem TInv.parts_nodup {t : TX} (h : TInv t) : t.parts.Nodup := by
  rw [List.nodup_iff_pairwise_ne]; exact h.rise.imp fun h e => by omega
theorem TInv.hd_iff {t : TX} (h : TInv t) {p : Int} : t.hd p = true ↔ (mget p t.heard).getD 0 ≠ 0 := by
  unfold TX.hd
  cases hg : mget p t.heard with
  | none => simp
  | some v =>
    have := (h.hp _ (mget_mem hg)).2
    simp at this
    simp [this]
theorem nodup_sub_len {α : Type} [DecidableEq α] : ∀ {a b : List α}, a.Nodup → (∀ x ∈ a, x ∈ b) → a.length ≤ b.length
  | [], b, _, _ => Nat.zero_le _
  | x :: a, b, hn, h => by
    rw [List.nodup_cons] at hn
    have hx := h x (List.mem_cons_self ..)
    have h1 := nodup_sub_len (a := a) (b := b.erase x) hn.2 fun y hy => (List.mem_erase_of_ne (fun e => hn.1 (by rw [← e]; exact hy))).2 (h y (List.mem_cons_of_mem _ hy))
    rw [List.length_erase_of_mem hx] at h1
    have h2 := List.length_pos_of_mem hx
    simp only [List.length_cons]
    omega
/-- has each been heard? -/
theorem all_heard {t : TX} {ps : List Int} {hs : List (Int × Int)} (hp : ps.Nodup) (hn : (hs.map (·.1)).Nodup) (hsub : ∀ q ∈ hs, q.1 ∈ ps) : ps.length ≤ hs.length ↔ ∀ p ∈ ps, (mget p hs).isSome = true := by
  constructor
  · intro hl p hm
    refine Classical.byContradiction fun hc => ?_
    have hno : mget p hs = none := by simpa using hc
    have hk := mget_none.1 hno
    have hsub2 : ∀ a ∈ p :: hs.map (·.1), a ∈ ps := fun a ha => by
      rcases List.mem_cons.1 ha with rfl | ha
      · exact hm
      · obtain ⟨q, hq, rfl⟩ := List.mem_map.1 ha; exact hsub q hq
    have hnd : (p :: hs.map (·.1)).Nodup := List.nodup_cons.2 ⟨hk, hn⟩
    have := nodup_sub_len hnd hsub2
    simp only [List.length_cons, List.length_map] at this
    omega
  · intro h
    have hsub2 : ∀ a ∈ ps, a ∈ hs.map (·.1) := fun a ha => by
      have h1 := h a ha
      cases hg : mget a hs with
      | none => rw [hg] at h1; cases h1
      | some v => exact List.mem_map.2 ⟨_, mget_mem hg, rfl⟩
    have := nodup_sub_len hp hsub2
    simpa using this
end Go.Proofs.Ythoafjeampbkeaa

set_option linter.unusedVariables false
set_option linter.unusedSimpArgs false
namespace Go.Proofs.Ythoafjeampbkeaa
open Go Go.Sx Go.Proofs
theorem CS.get_tx {s : CS} {x : Txn} (h : s.isT x) : mget x.k s.ts = some (s.tx x) := by
  unfold CS.isT at h; unfold CS.tx
  cases hg : mget x.k s.ts with
  | none => rw [hg] at h; cases h
  | some t => rfl
theorem CInv.tinv {n : Nat} {s : CS} (I : CInv n s) {x : Txn} (h : s.isT x) : TInv (s.tx x) := I.ti _ _ (CS.get_tx h)
theorem mset_len_in {κ ν : Type} [DecidableEq κ] {k : κ} {v : ν} {m : List (κ × ν)} (h : (mget k m).isSome = true) : (mset k v m).length = m.length := by
  rw [mset_len, if_pos]
  refine Classical.byContradiction fun hc => ?_
  rw [mget_none.2 hc] at h; cases h
/-- a transaction that is there is another one -/
theorem CInv.put {n : Nat} {s : CS} (I : CInv n s) {x : Txn} {t : TX} (h : s.isT x) (ht : TInv t) : CInv n (s.put x.k t) := by
  have hl : (mset x.k t s.ts).length = s.ts.length := mset_len_in h
  refine ⟨mset_nodup I.nd, ?_, fun k t' hk => ?_, fun k t' hk => ?_, I.c0, I.fn, I.fl⟩
  · show (mset x.k t s.ts).length ≤ n; rw [hl]; exact I.ln
  · have hk' : mget k (mset x.k t s.ts) = some t' := hk
    rw [mget_mset] at hk'
    split at hk'
    · cases hk'; exact ht
    · exact I.ti k t' hk'
  · have hk' : mget k (mset x.k t s.ts) = some t' := hk
    rw [mget_mset] at hk'
    split at hk'
    · next e => subst e; exact I.kn _ _ (CS.get_tx h)
    · exact I.kn k t' hk'
theorem mget_mdel_some {κ ν : Type} [DecidableEq κ] {m : List (κ × ν)} (hn : (m.map (·.1)).Nodup) {k k' : κ} {v : ν} (h : mget k' (mdel k m) = some v) : mget k' m = some v := by
  have h1 := (mget_iff (mdel_nodup hn)).1 h
  exact (mget_iff hn).2 ((mdel_sub k m).subset h1)
theorem CInv.cut {n : Nat} {s : CS} (I : CInv n s) {k : K3} : CInv n (s.cut k) :=
  ⟨mdel_nodup I.nd, Nat.le_trans mdel_len I.ln, fun k' t h => I.ti k' t (mget_mdel_some I.nd h), fun k' t h => I.kn k' t (mget_mdel_some I.nd h), I.c0, I.fn, I.fl⟩
theorem TInv.hear {t : TX} (h : TInv t) {p : Int} (hp : p ∈ t.parts) (hall : ¬ allHeard (hear1 t p)) : TInv (hear1 t p) := by
  refine ⟨h.ne, h.rise, h.nn, mset_nodup h.hn, fun q hq => ?_, by unfold allHeard at hall; omega, h.wk, h.bg⟩
  have h1 := mget_of_mem (mset_nodup h.hn) (show q ∈ mset p 1 t.heard from hq)
  rw [mget_mset] at h1
  split at h1
  · next e => rw [e]; exact ⟨hp, by simpa using h1.symm⟩
  · exact h.hp q (mget_mem h1)
theorem TInv.open {t : TX} (h : TInv t) : TInv (openT t) :=
  ⟨h.ne, h.rise, h.nn, by simp [openT], fun q hq => (by cases hq), by have := List.length_pos_iff.2 h.ne; simpa [openT] using this, fun e => (by cases e), h.bg⟩
theorem CInv.hear {n : Nat} {s : CS} (I : CInv n s) {m : Message} : CInv n (cHear s m).s := by
  unfold cHear
  split
  · exact I
  split
  · exact I
  split
  · exact I.cut
  split
  · next h =>
    split
    · next h2 => exact I.put h.2.1.1 ((I.tinv h.2.1.1).hear h.2.1.2 h2)
    · exact I.put h.2.1.1 (I.tinv h.2.1.1).open
  split
  · next h =>
    split
    · next h2 => exact I.put h.2.1.1 ((I.tinv h.2.1.1).hear h.2.1.2 h2)
    · exact I.cut
  · exact I
theorem mget_filterT {s : CS} {p : K3 × TX → Bool} (hn : (s.ts.map (·.1)).Nodup) {k : K3} {t : TX} : mget k (s.ts.filter p) = some t ↔ mget k s.ts = some t ∧ p (k, t) = true := by
  have h2 : ((s.ts.filter p).map (·.1)).Nodup := hn.sublist ((List.filter_sublist).map _)
  rw [mget_iff h2, mget_iff hn, List.mem_filter]
theorem CInv.step {n : Nat} {s : CS} (I : CInv n s) {now : Int} : CInv n (stepS s now) := by
  have h2 : ((s.ts.filter fun q => !decide (gaveUp q.2 now)).map (·.1)).Nodup := I.nd.sublist ((List.filter_sublist).map _)
  exact ⟨h2, Nat.le_trans (List.length_filter_le _ _) I.ln, fun k t h => I.ti k t ((mget_filterT I.nd).1 h).1, fun k t h => I.kn k t ((mget_filterT I.nd).1 h).1, I.c0, I.fn, I.fl⟩
theorem works0_map {l : List Work} {ws : List (Int × CW)} (hw : ws.map (fun q => (q.1, q.2.2)) = works0 0 l) : ws.map (·.1) = (works0 0 l).map (·.1) := by rw [← hw, List.map_map]; rfl
theorem TInv.began {l : List Work} {ws : List (Int × CW)} {now : Int} (hw : ws.map (fun q => (q.1, q.2.2)) = works0 0 l) (hl : l.length ≤ 100000) (hne : ws ≠ []) (hb : fits now) : TInv (beganT now ws) := by
  refine ⟨fun h => hne (List.map_eq_nil_iff.1 h), ?_, fun p hp => ?_, by simp [beganT], fun q hq => (by cases hq), ?_, fun _ => rfl, hb⟩
  · show (ws.map (·.1)).Pairwise (· < ·)
    rw [works0_map hw]; exact works0_rise
  · have hp' : p ∈ ws.map (·.1) := hp
    rw [works0_map hw] at hp'
    obtain ⟨q, hq, rfl⟩ := List.mem_map.1 hp'
    have := works0_lt (i := 0) (Int.le_refl _) q hq
    unfold fits; omega
  · show 0 < (ws.map (·.1)).length
    rw [List.length_map]; exact List.length_pos_iff.2 hne
theorem CInv.fresh {n : Nat} {s : CS} (I : CInv n s) : mget (newX s).k s.ts = none := by
  cases hg : mget (newX s).k s.ts with
  | none => rfl
  | some t =>
    have := (I.kn _ _ hg).2.2.2.2 rfl
    have h2 : (newX s).k.2.2 = s.count + 1 := rfl
    omega
theorem CInv.begin {n : Nat} {s : CS} (I : CInv n s) {l : List Work} {ws : List (Int × CW)} {now : Int} (hw : ws.map (fun q => (q.1, q.2.2)) = works0 0 l) (hl : l.length ≤ 100000) (hb : fits now) (hn : n ≤ 100000) : CInv (n + 1) (beginS s now ws) := by
  unfold beginS
  split
  · exact I.more (Nat.le_succ _)
  next hne =>
  have hc := I.c0
  refine ⟨mset_nodup I.nd, ?_, fun k t hk => ?_, fun k t hk => ?_, ?_, I.fn, I.fl⟩
  · show (mset _ _ s.ts).length ≤ n + 1
    rw [mset_len]; have := I.ln; split <;> omega
  · have hk' : mget k (mset (newX s).k (beganT now ws) s.ts) = some t := hk
    rw [mget_mset] at hk'
    split at hk'
    · cases hk'; exact TInv.began hw hl hne hb
    · exact I.ti k t hk'
  · have hk' : mget k (mset (newX s).k (beganT now ws) s.ts) = some t := hk
    rw [mget_mset] at hk'
    show k.1 = s.node ∧ fits k.2.1 ∧ fits k.2.2 ∧ k.2.1 ≤ s.life ∧ (k.2.1 = s.life → 1 ≤ k.2.2 ∧ k.2.2 ≤ s.count + 1)
    split at hk'
    · next e =>
      subst e
      refine ⟨rfl, I.fl, ?_, Int.le_refl _, fun _ => ?_⟩
      · show fits (s.count + 1); unfold fits; omega
      · show 1 ≤ s.count + 1 ∧ s.count + 1 ≤ s.count + 1; omega
    · obtain ⟨a, b, c, d, e⟩ := I.kn k t hk'
      exact ⟨a, b, c, d, fun h => by have := e h; omega⟩
  · show 0 ≤ s.count + 1 ∧ s.count + 1 ≤ ((n + 1 : Nat) : Int); omega
theorem works0_len : ∀ {l : List Work} {i : Int}, (works0 i l).length ≤ l.length
  | [], i => Nat.le_refl _
  | w :: l, i => by
    unfold works0
    have := works0_len (l := l) (i := i + 1)
    split <;> simp only [List.length_cons] <;> omega
/-- what is given up -/
theorem stepS_get {n : Nat} {s : CS} (I : CInv n s) {now : Int} {k : K3} {t : TX} : mget k (stepS s now).ts = some t ↔ mget k s.ts = some t ∧ ¬ gaveUp t now := by
  unfold stepS
  rw [show (⟨s.node, s.life, s.count, s.ts.filter fun q => !decide (gaveUp q.2 now)⟩ : CS).ts = s.ts.filter fun q => !decide (gaveUp q.2 now) from rfl, mget_filterT I.nd]
  simp
theorem mem_allC {s : CS} {k : K3} : k ∈ allC s ↔ (mget k s.ts).isSome = true := by
  unfold allC
  rw [mem_sort3, mget_key]
  constructor
  · rintro ⟨v, hv⟩; rw [hv]; rfl
  · intro h
    cases hg : mget k s.ts with
    | none => rw [hg] at h; cases h
    | some v => exact ⟨v, rfl⟩
end Go.Proofs.Ythoafjeampbkeaa

set_option linter.unusedVariables false
set_option linter.unusedSimpArgs false
namespace Go.Proofs.Ythoafjeampbkeaa
open Go Go.Sx Go.Proofs
abbrev RTx := Convoyref16Txn
abbrev ROc := Convoyref16Outcome
structure TRel (t : RTx) (x : TX) : Prop where
  op : t.Open = x.op
  bg : t.Began = x.began
  ps : t.Parts = x.parts
  hd : t.Heard = x.parts.map x.hd
  wk : x.op = false → t.Works = x.parts.map x.wk
structure CRel (s : CS) (m : Coord) : Prop where
  node : m.Node = s.node
  life : m.Life = s.life
  count : m.Count = s.count
  rise : m.Txns.Pairwise fun a b => ltK a.X.k b.X.k
  mem : ∀ t ∈ m.Txns, ∃ x, mget t.X.k s.ts = some x ∧ TRel t x
  cov : ∀ k, (mget k s.ts).isSome = true → ∃ t ∈ m.Txns, t.X.k = k
theorem crel0 {node life : Int} : CRel ⟨node, life, 0, []⟩ ⟨node, life, 0, []⟩ := ⟨rfl, rfl, rfl, by simp, fun t h => (by cases h), fun k h => (by cases h)⟩
/-- the keys in their order are the reference's -/
theorem CRel.all {n : Nat} {s : CS} {m : Coord} (I : CInv n s) (r : CRel s m) : allC s = m.Txns.map fun t => t.X.k := by
  refine rise_eq (lt := ltK) (fun _ => ltK_irr) (fun _ _ => ltK_asy) (sort3_rise I.nd) ?_ fun k => ?_
  · rw [List.pairwise_map]; exact r.rise
  · rw [mem_allC, List.mem_map]
    constructor
    · exact fun h => r.cov k h
    · rintro ⟨t, ht, rfl⟩
      obtain ⟨x, hx, _⟩ := r.mem t ht
      rw [hx]; rfl
theorem CRel.get {s : CS} {m : Coord} (r : CRel s m) {t : RTx} (ht : t ∈ m.Txns) : s.isT t.X ∧ TRel t (s.tx t.X) := by
  obtain ⟨x, hx, h⟩ := r.mem t ht
  unfold CS.isT CS.tx
  rw [hx]
  exact ⟨rfl, h⟩
theorem CRel.isT {s : CS} {m : Coord} (r : CRel s m) {x : Txn} : s.isT x ↔ ∃ t ∈ m.Txns, t.X = x := by
  constructor
  · intro h
    obtain ⟨t, ht, hk⟩ := r.cov _ h
    exact ⟨t, ht, k_inj hk⟩
  · rintro ⟨t, ht, rfl⟩; exact (r.get ht).1
/-- what is said again, by the reference -/
def againI (n : Int) (t : RTx) (i : Nat) : Message := if t.Open = true then decM n t.X (t.Parts[i]?.getD 0) true else prepM n t.X (t.Parts[i]?.getD 0) (t.Works[i]?.getD zWork)
def againR (n : Int) (t : RTx) (k : Nat) : List Message := ((List.range k).filter fun i => !(t.Heard[i]?.getD false)).map (againI n t)
theorem againR_succ {n : Int} {t : RTx} {k : Nat} : againR n t (k + 1) = againR n t k ++ if t.Heard[k]?.getD false = true then [] else [againI n t k] := by
  unfold againR
  rw [List.range_succ, List.filter_append, List.map_append]
  cases h : t.Heard[k]?.getD false <;> simp [h]
theorem TRel.again {t : RTx} {x : TX} (h : TRel t x) {n : Int} : againR n t t.Parts.length = againL n t.X x := by
  suffices hk : ∀ k, k ≤ x.parts.length → againR n t k = ((x.parts.take k).filter fun p => !x.hd p).map (saidM n t.X x) by
    have := hk x.parts.length (Nat.le_refl _)
    rw [List.take_length] at this
    rw [h.ps]
    exact this
  intro k
  induction k with
  | zero => intro _; simp [againR]
  | succ k ih =>
    intro hk
    have hk1 : k < x.parts.length := hk
    rw [againR_succ, ih (Nat.le_of_lt hk1), List.take_succ_eq_append_getElem hk1, List.filter_append, List.map_append]
    have e1 : t.Heard[k]?.getD false = x.hd x.parts[k] := by rw [h.hd, List.getElem?_map, List.getElem?_eq_getElem hk1]; rfl
    have e2 : againI n t k = saidM n t.X x x.parts[k] := by
      unfold againI saidM
      rw [h.op, h.ps, List.getElem?_eq_getElem hk1]
      by_cases ho : x.op = true
      · rw [if_pos ho, if_pos ho]; rfl
      · rw [if_neg ho, if_neg ho, h.wk (by simpa using ho), List.getElem?_map, List.getElem?_eq_getElem hk1]; rfl
    rw [e1, e2]
    cases hh : x.hd x.parts[k] <;> simp [hh]
def noR (n : Int) (t : RTx) : List Message := t.Parts.map fun p => decM n t.X p false
theorem TRel.no {t : RTx} {x : TX} (h : TRel t x) {n : Int} : noR n t = noL n t.X x := by unfold noR noL; rw [h.ps]
/-- put in, in order -/
def putR (t : RTx) : List RTx → List RTx
  | [] => [t]
  | a :: l => if ltK a.X.k t.X.k then a :: putR t l else if a.X = t.X then t :: l else t :: a :: l
theorem mem_putR {t e : RTx} : ∀ {l : List RTx}, l.Pairwise (fun a b => ltK a.X.k b.X.k) → (e ∈ putR t l ↔ e = t ∨ (e ∈ l ∧ e.X ≠ t.X))
  | [], _ => by simp [putR]
  | a :: l, hr => by
    rw [List.pairwise_cons] at hr
    unfold putR
    split
    · next h =>
      have ha : a.X ≠ t.X := fun e => by rw [e] at h; exact ltK_irr h
      rw [List.mem_cons, mem_putR hr.2, List.mem_cons]
      constructor
      · rintro (rfl | rfl | ⟨h1, h2⟩)
        · exact .inr ⟨.inl rfl, ha⟩
        · exact .inl rfl
        · exact .inr ⟨.inr h1, h2⟩
      · rintro (rfl | ⟨rfl | h1, h2⟩)
        · exact .inr (.inl rfl)
        · exact .inl rfl
        · exact .inr (.inr ⟨h1, h2⟩)
    · next h =>
      have hgt : ∀ b ∈ l, b.X ≠ t.X := fun b hb e => by
        have h1 := hr.1 b hb
        rw [e] at h1
        exact h h1
      split
      · next he =>
        rw [List.mem_cons, List.mem_cons]
        constructor
        · rintro (rfl | h1)
          · exact .inl rfl
          · exact .inr ⟨.inr h1, hgt e h1⟩
        · rintro (rfl | ⟨rfl | h1, h2⟩)
          · exact .inl rfl
          · exact absurd he h2
          · exact .inr h1
      · next he =>
        rw [List.mem_cons, List.mem_cons]
        constructor
        · rintro (rfl | rfl | h1)
          · exact .inl rfl
          · exact .inr ⟨.inl rfl, he⟩
          · exact .inr ⟨.inr h1, hgt e h1⟩
        · rintro (rfl | ⟨h1, h2⟩)
          · exact .inl rfl
          · exact .inr h1
theorem putR_rise {t : RTx} : ∀ {l : List RTx}, l.Pairwise (fun a b => ltK a.X.k b.X.k) → (putR t l).Pairwise fun a b => ltK a.X.k b.X.k
  | [], _ => by simp [putR]
  | a :: l, hr => by
    have hr0 := hr
    rw [List.pairwise_cons] at hr
    unfold putR
    split
    · next h =>
      rw [List.pairwise_cons]
      refine ⟨fun b hb => ?_, putR_rise hr.2⟩
      rcases (mem_putR hr.2).1 hb with rfl | ⟨hb, _⟩
      · exact h
      · exact hr.1 b hb
    · next h =>
      split
      · next he =>
        rw [List.pairwise_cons]
        refine ⟨fun b hb => ?_, hr.2⟩
        have := hr.1 b hb
        rw [he] at this; exact this
      · next he =>
        have h0 : ltK t.X.k a.X.k := Classical.byContradiction fun hc => he (k_inj (ltK_tot h hc))
        rw [List.pairwise_cons]
        refine ⟨fun b hb => ?_, hr0⟩
        rcases List.mem_cons.1 hb with rfl | hb
        · exact h0
        · exact ltK_trans h0 (hr.1 b hb)
theorem CRel.put {s : CS} {m : Coord} (r : CRel s m) {t : RTx} {x : TX} (h : TRel t x) : CRel (s.put t.X.k x) { m with Txns := putR t m.Txns } := by
  refine ⟨r.node, r.life, r.count, putR_rise r.rise, fun e he => ?_, fun k hk => ?_⟩
  · show ∃ y, mget e.X.k (mset t.X.k x s.ts) = some y ∧ TRel e y
    rw [mget_mset]
    rcases (mem_putR r.rise).1 he with rfl | ⟨h1, h2⟩
    · rw [if_pos rfl]; exact ⟨x, rfl, h⟩
    · rw [if_neg fun e => h2 (k_inj e)]; exact r.mem e h1
  · have hk' : (mget k (mset t.X.k x s.ts)).isSome = true := hk
    rw [mget_mset] at hk'
    split at hk'
    · next e => exact ⟨t, (mem_putR r.rise).2 (.inl rfl), e.symm⟩
    · next e =>
      obtain ⟨a, ha, rfl⟩ := r.cov k hk'
      exact ⟨a, (mem_putR r.rise).2 (.inr ⟨ha, fun h => e (by rw [h])⟩), rfl⟩
def cutR (x : Txn) (l : List RTx) : List RTx := l.filter fun t => decide (t.X ≠ x)
theorem mget_mdel {κ ν : Type} [DecidableEq κ] {m : List (κ × ν)} (hn : (m.map (·.1)).Nodup) {k k' : κ} : mget k' (mdel k m) = if k' = k then none else mget k' m := by
  induction m with
  | nil => simp [mdel, mget]
  | cons q m ih =>
    obtain ⟨a, v⟩ := q
    simp only [List.map_cons, List.nodup_cons] at hn
    unfold mdel
    by_cases h : k = a
    · subst h
      simp only [if_true]
      by_cases h2 : k' = k
      · subst h2; simp [mget_none.2 hn.1]
      · simp [mget, h2]
    · simp only [h, if_false]
      by_cases h2 : k' = a
      · subst h2
        simp [mget, Ne.symm h]
      · simp only [mget, h2, if_false]
        exact ih hn.2
theorem CRel.cut {n : Nat} {s : CS} {m : Coord} (I : CInv n s) (r : CRel s m) {x : Txn} : CRel (s.cut x.k) { m with Txns := cutR x m.Txns } := by
  refine ⟨r.node, r.life, r.count, r.rise.sublist List.filter_sublist, fun e he => ?_, fun k hk => ?_⟩
  · show ∃ y, mget e.X.k (mdel x.k s.ts) = some y ∧ TRel e y
    rw [mget_mdel I.nd]
    have h1 := List.mem_filter.1 he
    rw [if_neg fun e1 => (of_decide_eq_true h1.2) (k_inj e1)]
    exact r.mem e h1.1
  · have hk' : (mget k (mdel x.k s.ts)).isSome = true := hk
    rw [mget_mdel I.nd] at hk'
    split at hk'
    · cases hk'
    · next e =>
      obtain ⟨a, ha, rfl⟩ := r.cov k hk'
      exact ⟨a, List.mem_filter.2 ⟨ha, decide_eq_true fun h => e (by rw [h])⟩, rfl⟩
/-- a list in order has each but once -/
theorem CRel.one {s : CS} {m : Coord} (r : CRel s m) {t t' : RTx} (h : t ∈ m.Txns) (h' : t' ∈ m.Txns) (e : t.X = t'.X) : t = t' := by
  have hr := r.rise
  generalize m.Txns = l at *
  induction l with
  | nil => cases h
  | cons a l ih =>
    rw [List.pairwise_cons] at hr
    rcases List.mem_cons.1 h with e1 | g
    · rcases List.mem_cons.1 h' with e2 | g'
      · rw [e1, e2]
      · have := hr.1 t' g'; rw [← e1, e] at this; exact absurd this ltK_irr
    · rcases List.mem_cons.1 h' with e2 | g'
      · have := hr.1 t g; rw [← e2, e] at this; exact absurd this ltK_irr
      · exact ih g g' hr.2
end Go.Proofs.Ythoafjeampbkeaa

set_option linter.unusedVariables false
set_option linter.unusedSimpArgs false
namespace Go.Proofs.Ythoafjeampbkeaa
open Go Go.Sx Go.Proofs
def forCR (c : Coord) (m : Message) : Prop := m.To = c.Node ∧ m.Txn.Node = c.Node
/-- have all the others been heard? -/
def othersR (t : RTx) (p : Int) : Prop := ∀ j (h : j < t.Parts.length), t.Parts[j] ≠ p → t.Heard[j]?.getD false = true
def ocR (x : Txn) (y d : Bool) : ROc := ⟨x, y, d⟩
def toOc (o : CoordOutcome) : ROc := ⟨o.Txn, o.Yes, o.Done⟩
def markR (t : RTx) (i : Nat) : RTx := { t with Heard := t.Heard.set i true }
def openR (t : RTx) : RTx := { t with Open := true, Heard := List.replicate t.Parts.length false }
/-- the reference's answer -/
inductive RCHear (c : Coord) (m : Message) : Coord → List Message → List Rec → List ROc → Prop
  | off (h : ¬ forCR c m) : RCHear c m c [] [] []
  | askNo (h : forCR c m) (k : m.Kind = 5) (t : RTx) (ht : t ∈ c.Txns) (hx : t.X = m.Txn) (ho : t.Open = false) : RCHear c m c [] [] []
  | ask (h : forCR c m) (k : m.Kind = 5) (ho : ∀ t ∈ c.Txns, t.X = m.Txn → t.Open = true) (y : Bool) (hy : y = true ↔ ∃ t ∈ c.Txns, t.X = m.Txn) : RCHear c m c [decM c.Node m.Txn m.From y] [] []
  | none (h : forCR c m) (k : m.Kind ≠ 5) (hn : ∀ t ∈ c.Txns, t.X ≠ m.Txn) : RCHear c m c [] [] []
  | nopart (h : forCR c m) (k : m.Kind ≠ 5) (t : RTx) (ht : t ∈ c.Txns) (hx : t.X = m.Txn) (hp : m.From ∉ t.Parts ∨ (t.Open = true ∧ m.Kind ≠ 4) ∨ (t.Open = false ∧ m.Kind ≠ 2)) : RCHear c m c [] [] []
  | against (h : forCR c m) (t : RTx) (ht : t ∈ c.Txns) (hx : t.X = m.Txn) (k : m.Kind = 2) (hp : m.From ∈ t.Parts) (ho : t.Open = false) (hy : m.Yes = false) : RCHear c m { c with Txns := cutR m.Txn c.Txns } (noR c.Node t) [] [ocR m.Txn false false]
  | some (h : forCR c m) (t : RTx) (ht : t ∈ c.Txns) (hx : t.X = m.Txn) (k : (t.Open = true ∧ m.Kind = 4) ∨ (t.Open = false ∧ m.Kind = 2 ∧ m.Yes = true)) (i : Nat) (hi : i < t.Parts.length) (hp : t.Parts[i] = m.From) (ha : ¬ othersR t m.From) : RCHear c m { c with Txns := putR (markR t i) c.Txns } [] [] []
  | over (h : forCR c m) (t : RTx) (ht : t ∈ c.Txns) (hx : t.X = m.Txn) (ho : t.Open = true) (k : m.Kind = 4) (hp : m.From ∈ t.Parts) (ha : othersR t m.From) : RCHear c m { c with Txns := cutR m.Txn c.Txns } [] [recE m.Txn] [ocR m.Txn true true]
  | opens (h : forCR c m) (t : RTx) (ht : t ∈ c.Txns) (hx : t.X = m.Txn) (ho : t.Open = false) (k : m.Kind = 2) (hy : m.Yes = true) (hp : m.From ∈ t.Parts) (ha : othersR t m.From) : RCHear c m { c with Txns := putR (openR t) c.Txns } (againR c.Node (openR t) t.Parts.length) [recC m.Txn t.Parts] [ocR m.Txn true false]
theorem CRel.forC {s : CS} {c : Coord} (r : CRel s c) {m : Message} : forC s m ↔ forCR c m := by unfold forCR Go.Proofs.Ythoafjeampbkeaa.forC; rw [r.node]
theorem TRel.mark {t : RTx} {x : TX} (h : TRel t x) (hx : TInv x) {i : Nat} (hi : i < t.Parts.length) {p : Int} (hp : t.Parts[i] = p) : TRel (markR t i) (hear1 x p) := by
  refine ⟨h.op, h.bg, h.ps, ?_, h.wk⟩
  show t.Heard.set i true = x.parts.map (hear1 x p).hd
  have hps := h.ps
  obtain ⟨X, op, bg, ps, wk, hd⟩ := t
  dsimp only at *
  subst hps
  have hh := h.hd
  dsimp only at hh
  subst hh
  refine List.ext_getElem (by simp) fun j h1 h2 => ?_
  have hj : j < x.parts.length := by simpa using h1
  rw [List.getElem_set, List.getElem_map, List.getElem_map]
  show _ = (mget x.parts[j] (mset p 1 x.heard)).isSome
  rw [mget_mset]
  by_cases e : i = j
  · subst e; rw [if_pos rfl, if_pos hp]; rfl
  · have hlt := List.pairwise_iff_getElem.1 hx.rise
    have : x.parts[j] ≠ p := fun e2 => by
      rcases Nat.lt_or_gt_of_ne e with h3 | h3
      · have := hlt i j hi hj h3; rw [hp, e2] at this; omega
      · have := hlt j i hj hi h3; rw [hp, e2] at this; omega
    rw [if_neg e, if_neg this]; rfl
theorem TRel.open {t : RTx} {x : TX} (h : TRel t x) : TRel (openR t) (openT x) := by
  refine ⟨rfl, h.bg, h.ps, ?_, fun e => by cases e⟩
  show List.replicate t.Parts.length false = x.parts.map (openT x).hd
  rw [h.ps]
  refine (List.eq_replicate_iff.2 ⟨by simp, fun b hb => ?_⟩).symm
  obtain ⟨p, _, rfl⟩ := List.mem_map.1 hb
  rfl
theorem TRel.others {t : RTx} {x : TX} (h : TRel t x) (hx : TInv x) {p : Int} (hp : p ∈ x.parts) : othersR t p ↔ allHeard (hear1 x p) := by
  unfold allHeard
  have hk := all_heard (t := x) (ps := x.parts) (hs := mset p 1 x.heard) hx.parts_nodup (mset_nodup hx.hn) fun q hq => by
    have h1 := mget_of_mem (mset_nodup hx.hn) hq
    rw [mget_mset] at h1
    split at h1
    · next e => rw [e]; exact hp
    · exact (hx.hp q (mget_mem h1)).1
  rw [show (hear1 x p).parts = x.parts from rfl, show (hear1 x p).heard = mset p 1 x.heard from rfl, hk]
  unfold othersR
  constructor
  · intro ho a ha
    obtain ⟨j, hj, rfl⟩ := List.getElem_of_mem ha
    rw [mget_mset]
    split
    · rfl
    · next hne =>
      have h1 := ho j (by rw [h.ps]; exact hj) (by simp only [h.ps]; exact hne)
      rw [h.hd, List.getElem?_map, List.getElem?_eq_getElem hj] at h1
      exact h1
  · intro ha j hj hne
    have hj' : j < x.parts.length := by rw [← h.ps]; exact hj
    have h1 := ha x.parts[j] (List.getElem_mem hj')
    rw [mget_mset, if_neg (by simpa only [h.ps] using hne)] at h1
    rw [h.hd, List.getElem?_map, List.getElem?_eq_getElem hj']
    exact h1
theorem CRel.hear {n : Nat} {s : CS} {c c' : Coord} {m : Message} {out : List Message} {rec : List Rec} {oc : List ROc} (I : CInv n s) (r : CRel s c) (h : RCHear c m c' out rec oc) :
    out = (cHear s m).out ∧ rec = (cHear s m).rc ∧ oc = (cHear s m).oc.map toOc ∧ CRel (cHear s m).s c' := by
  have hat : ∀ t ∈ c.Txns, t.X = m.Txn → s.isT m.Txn ∧ TRel t (s.tx m.Txn) ∧ TInv (s.tx m.Txn) := fun t ht e => by
    have := r.get ht
    rw [e] at this
    exact ⟨this.1, this.2, I.tinv this.1⟩
  unfold cHear
  cases h with
  | off h => rw [if_pos fun hh => h (r.forC.1 hh)]; exact ⟨rfl, rfl, rfl, r⟩
  | askNo h k t ht hx ho =>
    obtain ⟨h1, h2, _⟩ := hat t ht hx
    have ho' : (s.tx m.Txn).op = false := by rw [← h2.op]; exact ho
    rw [if_neg (fun hh => hh (r.forC.2 h)), if_neg (fun hh => hh.2.elim (fun a => a h1) fun a => by rw [ho'] at a; cases a), if_neg (fun hh => by have := hh.1; omega), if_neg (fun hh => by have := hh.1; omega), if_neg (fun hh => by have := hh.1; omega)]
    exact ⟨rfl, rfl, rfl, r⟩
  | ask h k ho y hy =>
    have hcase : m.Kind = 5 ∧ (¬ s.isT m.Txn ∨ (s.tx m.Txn).op = true) := by
      refine ⟨k, ?_⟩
      by_cases hi : s.isT m.Txn
      · right
        obtain ⟨t, ht, e⟩ := r.isT.1 hi
        rw [← (hat t ht e).2.1.op]; exact ho t ht e
      · exact .inl hi
    rw [if_neg (fun hh => hh (r.forC.2 h)), if_pos hcase]
    refine ⟨?_, rfl, rfl, r⟩
    have hyd : y = decide (s.isT m.Txn) := by
      rw [← r.isT] at hy
      by_cases hi : s.isT m.Txn
      · rw [decide_eq_true hi]; exact hy.2 hi
      · rw [decide_eq_false hi]
        cases y with
        | false => rfl
        | true => exact absurd (hy.1 rfl) hi
    rw [r.node, hyd]
  | none h k hn =>
    have hi : ¬ s.isT m.Txn := fun hh => by obtain ⟨t, ht, e⟩ := r.isT.1 hh; exact hn t ht e
    rw [if_neg (fun hh => hh (r.forC.2 h)), if_neg (fun hh => k hh.1), if_neg (fun hh => hi hh.2.1.1), if_neg (fun hh => hi hh.2.1.1), if_neg (fun hh => hi hh.2.1.1)]
    exact ⟨rfl, rfl, rfl, r⟩
  | nopart h k t ht hx hp =>
    obtain ⟨h1, h2, _⟩ := hat t ht hx
    have e1 := h2.op
    have e2 := h2.ps
    rw [e1, e2] at hp
    rw [if_neg (fun hh => hh (r.forC.2 h)), if_neg (fun hh => k hh.1), if_neg ?_, if_neg ?_, if_neg ?_]
    · exact ⟨rfl, rfl, rfl, r⟩
    · rintro ⟨k4, ⟨_, hm⟩, ho⟩
      rcases hp with hp | ⟨_, hp⟩ | ⟨hp, _⟩
      · exact hp hm
      · exact hp k4
      · rw [ho] at hp; cases hp
    · rintro ⟨k4, ⟨_, hm⟩, ho⟩
      rcases hp with hp | ⟨hp, _⟩ | ⟨_, hp⟩
      · exact hp hm
      · rw [ho] at hp; cases hp
      · exact hp k4
    · rintro ⟨k4, ⟨_, hm⟩, ho, _⟩
      rcases hp with hp | ⟨hp, _⟩ | ⟨_, hp⟩
      · exact hp hm
      · rw [ho] at hp; cases hp
      · exact hp k4
  | against h t ht hx k hp ho hy =>
    obtain ⟨h1, h2, _⟩ := hat t ht hx
    have ho' : (s.tx m.Txn).op = false := by rw [← h2.op]; exact ho
    rw [if_neg (fun hh => hh (r.forC.2 h)), if_neg (fun hh => by have := hh.1; omega), if_pos ⟨k, ⟨h1, by rw [← h2.ps]; exact hp⟩, ho', hy⟩]
    refine ⟨?_, rfl, rfl, r.cut I⟩
    show noR c.Node t = noL s.node m.Txn (s.tx m.Txn)
    rw [h2.no, r.node, hx]
  | some h t ht hx k i hi hp ha =>
    obtain ⟨h1, h2, h3⟩ := hat t ht hx
    have hm : m.From ∈ (s.tx m.Txn).parts := by rw [← h2.ps, ← hp]; exact List.getElem_mem hi
    have ha' : ¬ allHeard (hear1 (s.tx m.Txn) m.From) := fun hh => ha ((h2.others h3 hm).2 hh)
    have hr := r.put (h2.mark h3 hi hp)
    rw [show (markR t i).X = m.Txn from hx] at hr
    have e1 := h2.op
    rcases k with ⟨ho, k⟩ | ⟨ho, k, hy⟩
    · rw [e1] at ho
      rw [if_neg (fun hh => hh (r.forC.2 h)), if_neg (fun hh => by have := hh.1; omega), if_neg (fun hh => by have := hh.1; omega), if_neg (fun hh => by have := hh.1; omega), if_pos ⟨k, ⟨h1, hm⟩, ho⟩, if_pos ha']
      exact ⟨rfl, rfl, rfl, hr⟩
    · rw [e1] at ho
      rw [if_neg (fun hh => hh (r.forC.2 h)), if_neg (fun hh => by have := hh.1; omega), if_neg (fun hh => by rw [hy] at hh; cases hh.2.2.2), if_pos ⟨k, ⟨h1, hm⟩, ho⟩, if_pos ha']
      exact ⟨rfl, rfl, rfl, hr⟩
  | over h t ht hx ho k hp ha =>
    obtain ⟨h1, h2, h3⟩ := hat t ht hx
    have hm : m.From ∈ (s.tx m.Txn).parts := by rw [← h2.ps]; exact hp
    have ha' := (h2.others h3 hm).1 ha
    have ho' : (s.tx m.Txn).op = true := by rw [← h2.op]; exact ho
    rw [if_neg (fun hh => hh (r.forC.2 h)), if_neg (fun hh => by have := hh.1; omega), if_neg (fun hh => by have := hh.1; omega), if_neg (fun hh => by have := hh.1; omega), if_pos ⟨k, ⟨h1, hm⟩, ho'⟩, if_neg (fun hh => hh ha')]
    exact ⟨rfl, rfl, rfl, r.cut I⟩
  | opens h t ht hx ho k hy hp ha =>
    obtain ⟨h1, h2, h3⟩ := hat t ht hx
    have hm : m.From ∈ (s.tx m.Txn).parts := by rw [← h2.ps]; exact hp
    have ha' := (h2.others h3 hm).1 ha
    have ho' : (s.tx m.Txn).op = false := by rw [← h2.op]; exact ho
    have hr := r.put h2.open
    rw [show (openR t).X = m.Txn from hx] at hr
    rw [if_neg (fun hh => hh (r.forC.2 h)), if_neg (fun hh => by have := hh.1; omega), if_neg (fun hh => by rw [hy] at hh; cases hh.2.2.2), if_pos ⟨k, ⟨h1, hm⟩, ho'⟩, if_neg (fun hh => hh ha')]
    refine ⟨?_, ?_, rfl, hr⟩
    · show againR c.Node (openR t) (openR t).Parts.length = _
      rw [h2.open.again, r.node]
      show againL s.node t.X _ = _
      rw [hx]
    · show [recC m.Txn t.Parts] = [recC m.Txn (s.tx m.Txn).parts]
      rw [h2.ps]
/-- a step -/
def goneR (t : RTx) (now : Int) : Prop := t.Open = false ∧ lateT t.Began now
instance {t : RTx} {now : Int} : Decidable (goneR t now) := by unfold goneR; infer_instance
def stepOutR (n : Int) (now : Int) (t : RTx) : List Message := if goneR t now then noR n t else againR n t t.Parts.length
theorem TRel.gone {t : RTx} {x : TX} (h : TRel t x) {now : Int} : goneR t now ↔ gaveUp x now := by unfold goneR gaveUp; rw [h.op, h.bg]
theorem CRel.tx_of {s : CS} {c : Coord} (r : CRel s c) {t : RTx} (ht : t ∈ c.Txns) : ∃ x, mget t.X.k s.ts = some x ∧ TRel t x := r.mem t ht
theorem flatMap_congr' {α β : Type} {f g : α → List β} : ∀ {l : List α}, (∀ a ∈ l, f a = g a) → l.flatMap f = l.flatMap g
  | [], _ => rfl
  | a :: l, h => by rw [List.flatMap_cons, List.flatMap_cons, h a (List.mem_cons_self ..), flatMap_congr' fun b hb => h b (List.mem_cons_of_mem _ hb)]
theorem CRel.step {n : Nat} {s : CS} {c : Coord} {now : Int} (I : CInv n s) (r : CRel s c) :
    c.Txns.flatMap (stepOutR c.Node now) = stepOut s now ∧ ((c.Txns.filter fun t => decide (goneR t now)).map fun t => ocR t.X false false) = (stepOc s now).map toOc ∧ CRel (stepS s now) { c with Txns := c.Txns.filter fun t => !decide (goneR t now) } := by
  refine ⟨?_, ?_, r.node, r.life, r.count, r.rise.sublist List.filter_sublist, fun t ht => ?_, fun k hk => ?_⟩
  · unfold stepOut
    rw [r.all I, List.flatMap_map]
    refine flatMap_congr' fun t ht => ?_
    obtain ⟨x, hx, h⟩ := r.mem t ht
    unfold stepOutR stepOut1
    rw [hx, Option.getD_some, h.again, h.no, r.node]
    by_cases hg : gaveUp x now
    · rw [if_pos (h.gone.2 hg), if_pos hg]; rfl
    · rw [if_neg (fun e => hg (h.gone.1 e)), if_neg hg]; rfl
  · unfold stepOc
    rw [r.all I, List.filter_map, List.map_map, List.map_map]
    have : (c.Txns.filter fun t => decide (goneR t now)) = c.Txns.filter ((fun k => decide (gaveUp ((mget k s.ts).getD zTX) now)) ∘ fun t => t.X.k) := by
      refine List.filter_congr fun t ht => ?_
      obtain ⟨x, hx, h⟩ := r.mem t ht
      show decide _ = decide _
      rw [hx, Option.getD_some, decide_eq_decide]
      exact h.gone
    rw [this]; rfl
  · have h1 := List.mem_filter.1 ht
    obtain ⟨x, hx, h⟩ := r.mem t h1.1
    refine ⟨x, (stepS_get I).2 ⟨hx, fun hg => ?_⟩, h⟩
    have := h1.2
    rw [decide_eq_true (h.gone.2 hg)] at this; cases this
  · cases hg : mget k (stepS s now).ts with
    | none => rw [hg] at hk; cases hk
    | some x =>
      obtain ⟨h1, h2⟩ := (stepS_get I).1 hg
      obtain ⟨t, ht, rfl⟩ := r.cov k (by rw [h1]; rfl)
      obtain ⟨x', hx', h⟩ := r.mem t ht
      rw [h1] at hx'; cases hx'
      refine ⟨t, List.mem_filter.2 ⟨ht, ?_⟩, rfl⟩
      rw [decide_eq_false fun e => h2 (h.gone.1 e)]; rfl
theorem CRel.voting {n : Nat} {s : CS} {c : Coord} (I : CInv n s) (r : CRel s c) : votingL s = (c.Txns.filter fun t => !t.Open).map (·.X) := by
  unfold votingL
  rw [r.all I, List.filter_map, List.map_map]
  have : c.Txns.filter ((fun k => !((mget k s.ts).getD zTX).op) ∘ fun t => t.X.k) = c.Txns.filter fun t => !t.Open := by
    refine List.filter_congr fun t ht => ?_
    obtain ⟨x, hx, h⟩ := r.mem t ht
    show (!((mget t.X.k s.ts).getD zTX).op) = _
    rw [hx, Option.getD_some, h.op]
  rw [this]; rfl
theorem CRel.open {n : Nat} {s : CS} {c : Coord} (I : CInv n s) (r : CRel s c) : openL s = (c.Txns.filter fun t => t.Open).map fun t => recC t.X t.Parts := by
  unfold openL
  rw [r.all I, List.filter_map, List.map_map]
  have : c.Txns.filter ((fun k => ((mget k s.ts).getD zTX).op) ∘ fun t => t.X.k) = c.Txns.filter fun t => t.Open := by
    refine List.filter_congr fun t ht => ?_
    obtain ⟨x, hx, h⟩ := r.mem t ht
    show ((mget t.X.k s.ts).getD zTX).op = _
    rw [hx, Option.getD_some, h.op]
  rw [this]
  refine List.map_congr_left fun t ht => ?_
  obtain ⟨x, hx, h⟩ := r.mem t (List.mem_filter.1 ht).1
  show recC _ ((mget t.X.k s.ts).getD zTX).parts = _
  rw [hx, Option.getD_some, h.ps]; rfl
/-- it begins -/
def begunR (c : Coord) (now : Int) (ws : List (Int × Work)) : RTx := ⟨⟨c.Node, c.Life, c.Count + 1⟩, false, now, ws.map (·.1), ws.map (·.2), List.replicate ws.length false⟩
theorem TRel.began {x : Txn} {now : Int} {ws : List (Int × CW)} (hn : (ws.map (·.1)).Nodup) : TRel ⟨x, false, now, ws.map (·.1), ws.map (·.2.2), List.replicate ws.length false⟩ (beganT now ws) := by
  refine ⟨rfl, rfl, rfl, ?_, fun _ => ?_⟩
  · show _ = (ws.map (·.1)).map (beganT now ws).hd
    refine (List.eq_replicate_iff.2 ⟨by simp, fun b hb => ?_⟩).symm
    obtain ⟨p, _, rfl⟩ := List.mem_map.1 hb
    rfl
  · show _ = (ws.map (·.1)).map (beganT now ws).wk
    rw [List.map_map]
    refine List.map_congr_left fun q hq => ?_
    show q.2.2 = ((mget q.1 ws).getD zCW).2
    rw [mget_of_mem hn hq]; rfl
theorem CRel.begin {s : CS} {c : Coord} {now : Int} {ws : List (Int × CW)} (r : CRel s c) (hn : (ws.map (·.1)).Nodup) (hne : ws ≠ []) :
    CRel (beginS s now ws) ⟨c.Node, c.Life, c.Count + 1, putR (begunR c now (ws.map fun q => (q.1, q.2.2))) c.Txns⟩ := by
  have h := r.put (TRel.began (x := newX s) (now := now) hn)
  unfold beginS
  rw [if_neg hne]
  have e : begunR c now (ws.map fun q => (q.1, q.2.2)) = ⟨newX s, false, now, ws.map (·.1), ws.map (·.2.2), List.replicate ws.length false⟩ := by
    unfold begunR newX
    rw [r.node, r.life, r.count, List.map_map, List.map_map, List.length_map]; rfl
  rw [e]
  exact ⟨r.node, r.life, by show c.Count + 1 = s.count + 1; rw [r.count], h.rise, h.mem, h.cov⟩
theorem begin_out {s : CS} {c : Coord} {now : Int} {ws : List (Int × CW)} (r : CRel s c) (hn : (ws.map (·.1)).Nodup) :
    againR c.Node (begunR c now (ws.map fun q => (q.1, q.2.2))) ws.length = beginOut s (ws.map fun q => (q.1, q.2.2)) := by
  have e : begunR c now (ws.map fun q => (q.1, q.2.2)) = ⟨newX s, false, now, ws.map (·.1), ws.map (·.2.2), List.replicate ws.length false⟩ := by
    unfold begunR newX
    rw [r.node, r.life, r.count, List.map_map, List.map_map, List.length_map]; rfl
  rw [e]
  have h := (TRel.began (x := newX s) (now := now) hn).again (n := c.Node)
  rw [show (⟨newX s, false, now, ws.map (·.1), ws.map (·.2.2), List.replicate ws.length false⟩ : RTx).Parts.length = ws.length from by simp] at h
  rw [h, r.node]
  unfold againL beginOut
  rw [List.map_map]
  have h1 : ((beganT now ws).parts.filter fun p => !(beganT now ws).hd p) = ws.map (·.1) := by
    rw [List.filter_eq_self.2]
    · rfl
    · intro a ha; rfl
  rw [h1, List.map_map]
  refine List.map_congr_left fun q hq => ?_
  show prepM s.node (newX s) q.1 ((mget q.1 ws).getD zCW).2 = prepM s.node (newX s) q.1 q.2.2
  rw [mget_of_mem hn hq]; rfl
end Go.Proofs.Ythoafjeampbkeaa

set_option linter.unusedVariables false
set_option linter.unusedSimpArgs false
namespace Go.Proofs.Ythoafjeampbkeaa
open Go Go.Sx Go.Proofs
/-- a record that may be open -/
structure OkR (node life : Int) (r : Rec) : Prop where
  node : r.Txn.Node = node
  life : r.Txn.Life < life
  ne : r.Parts ≠ []
  nn : ∀ p ∈ r.Parts, 0 ≤ p
  rise : r.Parts.Pairwise (· < ·)
def loadTX (r : Rec) : TX := ⟨true, 0, r.Parts, [], []⟩
def loadTs (l : List Rec) (m : List (K3 × TX)) : List (K3 × TX) := l.foldl (fun m r => mset r.Txn.k (loadTX r) m) m
theorem loadTs_snoc {l : List Rec} {r : Rec} {m : List (K3 × TX)} : loadTs (l ++ [r]) m = mset r.Txn.k (loadTX r) (loadTs l m) := by unfold loadTs; rw [List.foldl_append]; rfl
def loadRT (r : Rec) : RTx := ⟨r.Txn, true, 0, r.Parts, [], List.replicate r.Parts.length false⟩
def loadRs (l : List Rec) : List RTx := l.foldl (fun a r => putR (loadRT r) a) []
theorem loadRs_snoc {l : List Rec} {r : Rec} : loadRs (l ++ [r]) = putR (loadRT r) (loadRs l) := by unfold loadRs; rw [List.foldl_append]; rfl
theorem loadTs_keys {l : List Rec} : ∀ {m : List (K3 × TX)} {k : K3}, (mget k (loadTs l m)).isSome = true ↔ (mget k m).isSome = true ∨ ∃ r ∈ l, r.Txn.k = k := by
  induction l with
  | nil => intro m k; simp [loadTs]
  | cons r l ih =>
    intro m k
    rw [show loadTs (r :: l) m = loadTs l (mset r.Txn.k (loadTX r) m) from rfl, ih, mget_mset]
    by_cases h : k = r.Txn.k
    · subst h; simp
    · rw [if_neg h]
      simp only [List.mem_cons, exists_eq_or_imp]
      constructor
      · rintro (h1 | h1)
        · exact .inl h1
        · exact .inr (.inr h1)
      · rintro (h1 | h1 | h1)
        · exact .inl h1
        · exact absurd h1.symm h
        · exact .inr h1
theorem loadTs_nd {l : List Rec} : ∀ {m : List (K3 × TX)}, (m.map (·.1)).Nodup → ((loadTs l m).map (·.1)).Nodup ∧ (loadTs l m).length ≤ m.length + l.length := by
  induction l with
  | nil => intro m h; exact ⟨h, by simp [loadTs]⟩
  | cons r l ih =>
    intro m h
    obtain ⟨h1, h2⟩ := ih (m := mset r.Txn.k (loadTX r) m) (mset_nodup h)
    refine ⟨h1, ?_⟩
    rw [show loadTs (r :: l) m = loadTs l (mset r.Txn.k (loadTX r) m) from rfl]
    rw [mset_len] at h2
    simp only [List.length_cons]
    split at h2 <;> omega
theorem loadTs_all {P : K3 → TX → Prop} {l : List Rec} : ∀ {m : List (K3 × TX)}, (∀ k t, mget k m = some t → P k t) → (∀ r ∈ l, P r.Txn.k (loadTX r)) → ∀ k t, mget k (loadTs l m) = some t → P k t := by
  induction l with
  | nil => intro m h _ k t hk; exact h k t hk
  | cons r l ih =>
    intro m h hr k t hk
    refine ih (m := mset r.Txn.k (loadTX r) m) (fun k t hk => ?_) (fun r hm => hr r (List.mem_cons_of_mem _ hm)) k t hk
    rw [mget_mset] at hk
    split at hk
    · next e => subst e; cases hk; exact hr r (List.mem_cons_self ..)
    · exact h k t hk
theorem CRel.loads {l : List Rec} : ∀ {s : CS} {c : Coord}, CRel s c → CRel ⟨s.node, s.life, s.count, loadTs l s.ts⟩ { c with Txns := l.foldl (fun a r => putR (loadRT r) a) c.Txns } := by
  induction l with
  | nil => intro s c r; exact r
  | cons q l ih =>
    intro s c r
    have h := r.put (t := loadRT q) (x := loadTX q) ⟨rfl, rfl, rfl, (List.eq_replicate_iff.2 ⟨by simp [loadTX], fun b hb => by obtain ⟨p, _, rfl⟩ := List.mem_map.1 hb; rfl⟩).symm, fun e => by cases e⟩
    exact ih h
theorem crel_load {node life : Int} {l : List Rec} : CRel ⟨node, life, 0, loadTs l []⟩ ⟨node, life, 0, loadRs l⟩ := crel0.loads (l := l)
theorem TInv.load {node life : Int} {r : Rec} (h : OkR node life r) (hf : ∀ p ∈ r.Parts, fits p) : TInv (loadTX r) :=
  ⟨h.ne, h.rise, fun p hp => ⟨h.nn p hp, hf p hp⟩, by simp [loadTX], fun q hq => (by cases hq), by have := List.length_pos_iff.2 h.ne; simpa [loadTX] using this, fun e => (by cases e), fits0⟩
theorem CInv.load {node life : Int} {l : List Rec} {n : Nat} (h1 : fits node) (h2 : fits life) (hn : l.length ≤ n) (h : ∀ r ∈ l, OkR node life r ∧ (∀ p ∈ r.Parts, fits p) ∧ fits r.Txn.Life ∧ fits r.Txn.Count) : CInv n ⟨node, life, 0, loadTs l []⟩ := by
  obtain ⟨a, b⟩ := loadTs_nd (l := l) (m := []) (by simp)
  refine ⟨a, by have : (loadTs l []).length ≤ 0 + l.length := b; show (loadTs l []).length ≤ n; omega, loadTs_all (fun k t h => by cases h) fun r hr => TInv.load (h r hr).1 (h r hr).2.1, loadTs_all (fun k t h => by cases h) fun r hr => ?_, by simp, h1, h2⟩
  obtain ⟨g1, g2, g3, g4⟩ := h r hr
  refine ⟨g1.node, g3, g4, ?_, fun e => ?_⟩
  · have := g1.life; show r.Txn.Life ≤ life; omega
  · have := g1.life; have e' : r.Txn.Life = life := e; omega
/-- what is open may be loaded -/
theorem mem_openL {s : CS} {r : Rec} (h : r ∈ openL s) : ∃ k t, mget k s.ts = some t ∧ t.op = true ∧ r = recC (toTx k) t.parts := by
  unfold openL at h
  obtain ⟨k, hk, rfl⟩ := List.mem_map.1 h
  obtain ⟨h1, h2⟩ := List.mem_filter.1 hk
  rw [mem_allC] at h1
  cases hg : mget k s.ts with
  | none => rw [hg] at h1; cases h1
  | some t =>
    refine ⟨k, t, hg, ?_, ?_⟩
    · rw [hg] at h2; exact h2
    · rfl
theorem openL_ok {n : Nat} {s : CS} (I : CInv n s) {r : Rec} (h : r ∈ openL s) : OkR s.node (s.life + 1) r ∧ (∀ p ∈ r.Parts, fits p) ∧ fits r.Txn.Life ∧ fits r.Txn.Count := by
  obtain ⟨k, t, hk, ho, rfl⟩ := mem_openL h
  have ti := I.ti k t hk
  obtain ⟨a, b, c, d, e⟩ := I.kn k t hk
  exact ⟨⟨a, by show k.2.1 < s.life + 1; omega, ti.ne, fun p hp => (ti.nn p hp).1, ti.rise⟩, fun p hp => (ti.nn p hp).2, b, c⟩
theorem openL_nodup {n : Nat} {s : CS} (I : CInv n s) : ((openL s).map (·.Txn.k)).Nodup := by
  unfold openL
  rw [List.map_map]
  have : ((fun r : Rec => r.Txn.k) ∘ fun k => recC (toTx k) ((mget k s.ts).getD zTX).parts) = id := funext fun k => rfl
  rw [this, List.map_id]
  refine List.Nodup.sublist List.filter_sublist ?_
  rw [List.nodup_iff_pairwise_ne]
  exact (sort3_rise I.nd).imp fun h e => by rw [e] at h; exact ltK_irr h
theorem allC_len {s : CS} : (allC s).length = s.ts.length := by unfold allC; rw [sort3_len, List.length_map]
theorem openL_len {s : CS} : (openL s).length ≤ s.ts.length := by
  unfold openL
  rw [List.length_map, ← allC_len]
  exact List.length_filter_le _ _
end Go.Proofs.Ythoafjeampbkeaa
