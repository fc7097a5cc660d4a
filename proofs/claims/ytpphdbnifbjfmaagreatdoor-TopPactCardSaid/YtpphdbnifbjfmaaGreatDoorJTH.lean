/- A coordinator's small functions. -/
import Derived.Test.YtpphdbnifbjfmaaGreatDoorJTB
import Derived.Test.YtpphdbnifbjfmaaGreatDoorJTS
set_option linter.unusedVariables false
set_option linter.unusedSimpArgs false
namespace Go.Proofs.YtpphdbnifbjfmaaGreatDoor
open Go Go.Sx Go.Proofs
abbrev RTx := Convoyref16Txn
structure TRel (t : RTx) (x : TX) : Prop where
  op : t.Open = x.op
  bg : t.Began = x.began
  ps : t.Parts = x.parts
  hd : t.Heard = x.parts.map x.hd
  wk : x.op = false → t.Works = x.parts.map x.wk
structure CRel (s : CS) (m : Coord) : Prop where
  node : m.Node = s.node
  life : m.Life = s.life
  count : m.Count = s.count
  rise : m.Txns.Pairwise fun a b => ltK a.X.k b.X.k
  mem : ∀ t ∈ m.Txns, ∃ x, mget t.X.k s.ts = some x ∧ TRel t x
  cov : ∀ k, (mget k s.ts).isSome = true → ∃ t ∈ m.Txns, t.X.k = k
theorem CRel.all {n : Nat} {s : CS} {m : Coord} (I : CInv n s) (r : CRel s m) : allC s = m.Txns.map fun t => t.X.k := by
  refine rise_eq (lt := ltK) (fun _ => ltK_irr) (fun _ _ => ltK_asy) (sort3_rise I.nd) ?_ fun k => ?_
  · rw [List.pairwise_map]; exact r.rise
  · rw [mem_allC, List.mem_map]
    constructor
    · exact fun h => r.cov k h
    · rintro ⟨t, ht, rfl⟩
      obtain ⟨x, hx, _⟩ := r.mem t ht
      rw [hx]; rfl
def putR (t : RTx) : List RTx → List RTx
  | [] => [t]
  | a :: l => if ltK a.X.k t.X.k then a :: putR t l else if a.X = t.X then t :: l else t :: a :: l
theorem mem_putR {t e : RTx} : ∀ {l : List RTx}, l.Pairwise (fun a b => ltK a.X.k b.X.k) → (e ∈ putR t l ↔ e = t ∨ (e ∈ l ∧ e.X ≠ t.X))
  | [], _ => by simp [putR]
  | a :: l, hr => by
    rw [List.pairwise_cons] at hr
    unfold putR
    split
    · next h =>
      have ha : a.X ≠ t.X := fun e => by rw [e] at h; exact ltK_irr h
      rw [List.mem_cons, mem_putR hr.2, List.mem_cons]
      constructor
      · rintro (rfl | rfl | ⟨h1, h2⟩)
        · exact .inr ⟨.inl rfl, ha⟩
        · exact .inl rfl
        · exact .inr ⟨.inr h1, h2⟩
      · rintro (rfl | ⟨rfl | h1, h2⟩)
        · exact .inr (.inl rfl)
        · exact .inl rfl
        · exact .inr (.inr ⟨h1, h2⟩)
    · next h =>
      have hgt : ∀ b ∈ l, b.X ≠ t.X := fun b hb e => by
        have h1 := hr.1 b hb
        rw [e] at h1
        exact h h1
      split
      · next he =>
        rw [List.mem_cons, List.mem_cons]
        constructor
        · rintro (rfl | h1)
          · exact .inl rfl
          · exact .inr ⟨.inr h1, hgt e h1⟩
        · rintro (rfl | ⟨rfl | h1, h2⟩)
          · exact .inl rfl
          · exact absurd he h2
          · exact .inr h1
      · next he =>
        rw [List.mem_cons, List.mem_cons]
        constructor
        · rintro (rfl | rfl | h1)
          · exact .inl rfl
          · exact .inr ⟨.inl rfl, he⟩
          · exact .inr ⟨.inr h1, hgt e h1⟩
        · rintro (rfl | ⟨h1, h2⟩)
          · exact .inl rfl
          · exact .inr h1
theorem putR_rise {t : RTx} : ∀ {l : List RTx}, l.Pairwise (fun a b => ltK a.X.k b.X.k) → (putR t l).Pairwise fun a b => ltK a.X.k b.X.k
  | [], _ => by simp [putR]
  | a :: l, hr => by
    have hr0 := hr
    rw [List.pairwise_cons] at hr
    unfold putR
    split
    · next h =>
      rw [List.pairwise_cons]
      refine ⟨fun b hb => ?_, putR_rise hr.2⟩
      rcases (mem_putR hr.2).1 hb with rfl | ⟨hb, _⟩
      · exact h
      · exact hr.1 b hb
    · next h =>
      split
      · next he =>
        rw [List.pairwise_cons]
        refine ⟨fun b hb => ?_, hr.2⟩
        have := hr.1 b hb
        rw [he] at this; exact this
      · next he =>
        have h0 : ltK t.X.k a.X.k := Classical.byContradiction fun hc => he (k_inj (ltK_tot h hc))
        rw [List.pairwise_cons]
        refine ⟨fun b hb => ?_, hr0⟩
        rcases List.mem_cons.1 hb with rfl | hb
        · exact h0
        · exact ltK_trans h0 (hr.1 b hb)
theorem CRel.put {s : CS} {m : Coord} (r : CRel s m) {t : RTx} {x : TX} (h : TRel t x) : CRel (s.put t.X.k x) { m with Txns := putR t m.Txns } := by
  refine ⟨r.node, r.life, r.count, putR_rise r.rise, fun e he => ?_, fun k hk => ?_⟩
  · show ∃ y, mget e.X.k (mset t.X.k x s.ts) = some y ∧ TRel e y
    rw [mget_mset]
    rcases (mem_putR r.rise).1 he with rfl | ⟨h1, h2⟩
    · rw [if_pos rfl]; exact ⟨x, rfl, h⟩
    · rw [if_neg fun e => h2 (k_inj e)]; exact r.mem e h1
  · have hk' : (mget k (mset t.X.k x s.ts)).isSome = true := hk
    rw [mget_mset] at hk'
    split at hk'
    · next e => exact ⟨t, (mem_putR r.rise).2 (.inl rfl), e.symm⟩
    · next e =>
      obtain ⟨a, ha, rfl⟩ := r.cov k hk'
      exact ⟨a, (mem_putR r.rise).2 (.inr ⟨ha, fun h => e (by rw [h])⟩), rfl⟩
theorem mget_mdel {κ ν : Type} [DecidableEq κ] {m : List (κ × ν)} (hn : (m.map (·.1)).Nodup) {k k' : κ} : mget k' (mdel k m) = if k' = k then none else mget k' m := by
  induction m with
  | nil => simp [mdel, mget]
  | cons q m ih =>
    obtain ⟨a, v⟩ := q
    simp only [List.map_cons, List.nodup_cons] at hn
    unfold mdel
    by_cases h : k = a
    · subst h
      simp only [if_true]
      by_cases h2 : k' = k
      · subst h2; simp [mget_none.2 hn.1]
      · simp [mget, h2]
    · simp only [h, if_false]
      by_cases h2 : k' = a
      · subst h2
        simp [mget, Ne.symm h]
      · simp only [mget, h2, if_false]
        exact ih hn.2
def goneR (t : RTx) (now : Int) : Prop := t.Open = false ∧ lateT t.Began now
instance {t : RTx} {now : Int} : Decidable (goneR t now) := by unfold goneR; infer_instance
theorem TRel.began {x : Txn} {now : Int} {ws : List (Int × CW)} (hn : (ws.map (·.1)).Nodup) : TRel ⟨x, false, now, ws.map (·.1), ws.map (·.2.2), List.replicate ws.length false⟩ (beganT now ws) := by
  refine ⟨rfl, rfl, rfl, ?_, fun _ => ?_⟩
  · show _ = (ws.map (·.1)).map (beganT now ws).hd
    refine (List.eq_replicate_iff.2 ⟨by simp, fun b hb => ?_⟩).symm
    obtain ⟨p, _, rfl⟩ := List.mem_map.1 hb
    rfl
  · show _ = (ws.map (·.1)).map (beganT now ws).wk
    rw [List.map_map]
    refine List.map_congr_left fun q hq => ?_
    show q.2.2 = ((mget q.1 ws).getD zCW).2
    rw [mget_of_mem hn hq]; rfl
structure OkR (node life : Int) (r : Rec) : Prop where
  node : r.Txn.Node = node
  life : r.Txn.Life < life
  ne : r.Parts ≠ []
  nn : ∀ p ∈ r.Parts, 0 ≤ p
  rise : r.Parts.Pairwise (· < ·)
def loadTX (r : Rec) : TX := ⟨true, 0, r.Parts, [], []⟩
def loadTs (l : List Rec) (m : List (K3 × TX)) : List (K3 × TX) := l.foldl (fun m r => mset r.Txn.k (loadTX r) m) m
theorem loadTs_snoc {l : List Rec} {r : Rec} {m : List (K3 × TX)} : loadTs (l ++ [r]) m = mset r.Txn.k (loadTX r) (loadTs l m) := by unfold loadTs; rw [List.foldl_append]; rfl
theorem loadTs_keys {l : List Rec} : ∀ {m : List (K3 × TX)} {k : K3}, (mget k (loadTs l m)).isSome = true ↔ (mget k m).isSome = true ∨ ∃ r ∈ l, r.Txn.k = k := by
  induction l with
  | nil => intro m k; simp [loadTs]
  | cons r l ih =>
    intro m k
    rw [show loadTs (r :: l) m = loadTs l (mset r.Txn.k (loadTX r) m) from rfl, ih, mget_mset]
    by_cases h : k = r.Txn.k
    · subst h; simp
    · rw [if_neg h]
      simp only [List.mem_cons, exists_eq_or_imp]
      constructor
      · rintro (h1 | h1)
        · exact .inl h1
        · exact .inr (.inr h1)
      · rintro (h1 | h1 | h1)
        · exact .inl h1
        · exact absurd h1.symm h
        · exact .inr h1
theorem loadTs_nd {l : List Rec} : ∀ {m : List (K3 × TX)}, (m.map (·.1)).Nodup → ((loadTs l m).map (·.1)).Nodup ∧ (loadTs l m).length ≤ m.length + l.length := by
  induction l with
  | nil => intro m h; exact ⟨h, by simp [loadTs]⟩
  | cons r l ih =>
    intro m h
    obtain ⟨h1, h2⟩ := ih (m := mset r.Txn.k (loadTX r) m) (mset_nodup h)
    refine ⟨h1, ?_⟩
    rw [show loadTs (r :: l) m = loadTs l (mset r.Txn.k (loadTX r) m) from rfl]
    rw [mset_len] at h2
    simp only [List.length_cons]
    split at h2 <;> omega
theorem loadTs_all {P : K3 → TX → Prop} {l : List Rec} : ∀ {m : List (K3 × TX)}, (∀ k t, mget k m = some t → P k t) → (∀ r ∈ l, P r.Txn.k (loadTX r)) → ∀ k t, mget k (loadTs l m) = some t → P k t := by
  induction l with
  | nil => intro m h _ k t hk; exact h k t hk
  | cons r l ih =>
    intro m h hr k t hk
    refine ih (m := mset r.Txn.k (loadTX r) m) (fun k t hk => ?_) (fun r hm => hr r (List.mem_cons_of_mem _ hm)) k t hk
    rw [mget_mset] at hk
    split at hk
    · next e => subst e; cases hk; exact hr r (List.mem_cons_self ..)
    · exact h k t hk
theorem TInv.load {node life : Int} {r : Rec} (h : OkR node life r) (hf : ∀ p ∈ r.Parts, fits p) : TInv (loadTX r) :=
  ⟨h.ne, h.rise, fun p hp => ⟨h.nn p hp, hf p hp⟩, by simp [loadTX], fun q hq => (by cases hq), by have := List.length_pos_iff.2 h.ne; simpa [loadTX] using this, fun e => (by cases e), fits0⟩
theorem CInv.load {node life : Int} {l : List Rec} {n : Nat} (h1 : fits node) (h2 : fits life) (hn : l.length ≤ n) (h : ∀ r ∈ l, OkR node life r ∧ (∀ p ∈ r.Parts, fits p) ∧ fits r.Txn.Life ∧ fits r.Txn.Count) : CInv n ⟨node, life, 0, loadTs l []⟩ := by
  obtain ⟨a, b⟩ := loadTs_nd (l := l) (m := []) (by simp)
  refine ⟨a, by have : (loadTs l []).length ≤ 0 + l.length := b; show (loadTs l []).length ≤ n; omega, loadTs_all (fun k t h => by cases h) fun r hr => TInv.load (h r hr).1 (h r hr).2.1, loadTs_all (fun k t h => by cases h) fun r hr => ?_, by simp, h1, h2⟩
  obtain ⟨g1, g2, g3, g4⟩ := h r hr
  refine ⟨g1.node, g3, g4, ?_, fun e => ?_⟩
  · have := g1.life; show r.Txn.Life ≤ life; omega
  · have := g1.life; have e' : r.Txn.Life = life := e; omega
theorem mem_openL {s : CS} {r : Rec} (h : r ∈ openL s) : ∃ k t, mget k s.ts = some t ∧ t.op = true ∧ r = recC (toTx k) t.parts := by
  unfold openL at h
  obtain ⟨k, hk, rfl⟩ := List.mem_map.1 h
  obtain ⟨h1, h2⟩ := List.mem_filter.1 hk
  rw [mem_allC] at h1
  cases hg : mget k s.ts with
  | none => rw [hg] at h1; cases h1
  | some t =>
    refine ⟨k, t, hg, ?_, ?_⟩
    · rw [hg] at h2; exact h2
    · rfl
theorem openL_ok {n : Nat} {s : CS} (I : CInv n s) {r : Rec} (h : r ∈ openL s) : OkR s.node (s.life + 1) r ∧ (∀ p ∈ r.Parts, fits p) ∧ fits r.Txn.Life ∧ fits r.Txn.Count := by
  obtain ⟨k, t, hk, ho, rfl⟩ := mem_openL h
  have ti := I.ti k t hk
  obtain ⟨a, b, c, d, e⟩ := I.kn k t hk
  exact ⟨⟨a, by show k.2.1 < s.life + 1; omega, ti.ne, fun p hp => (ti.nn p hp).1, ti.rise⟩, fun p hp => (ti.nn p hp).2, b, c⟩
theorem openL_nodup {n : Nat} {s : CS} (I : CInv n s) : ((openL s).map (·.Txn.k)).Nodup := by
  unfold openL
  rw [List.map_map]
  have : ((fun r : Rec => r.Txn.k) ∘ fun k => recC (toTx k) ((mget k s.ts).getD zTX).parts) = id := funext fun k => rfl
  rw [this, List.map_id]
  refine List.Nodup.sublist List.filter_sublist ?_
  rw [List.nodup_iff_pairwise_ne]
  exact (sort3_rise I.nd).imp fun h e => by rw [e] at h; exact ltK_irr h
theorem allC_len {s : CS} : (allC s).length = s.ts.length := by unfold allC; rw [sort3_len, List.length_map]
theorem openL_len {s : CS} : (openL s).length ≤ s.ts.length := by
  unfold openL
  rw [List.length_map, ← allC_len]
  exact List.length_filter_le _ _
abbrev ptrC (p : Nat) : Value := .pointer (some ⟨p, 0, none⟩)
abbrev iK : Int → Value := fun x => .int .i64 x
structure CE where
  k : K3
  p : Nat
  v : Value
  x : TX
abbrev xRow (e : CE) (wv : Value) (hb : Nat) : HProp := row e.p 111 [.bool e.x.op, I e.x.began, e.v, wv, .map (some hb)]
abbrev xHeard (H : Heap) (e : CE) (hb : Nat) : HProp := mapO iK rInt false H hb e.x.heard
def xWorks (H : Heap) (e : CE) (wv : Value) : HProp := fun h => (e.x.op = true ∧ e.x.works = [] ∧ wv = .map none ∧ h = Heap.empty) ∨ (e.x.op = false ∧ ∃ wb, wv = .map (some wb) ∧ mapO iK rCW true H wb e.x.works h)
def xA (H : Heap) (e : CE) : HProp := fun h => SlB rInt 1 8 H e.v e.x.parts ∧ ∃ wv hb, big [xRow e wv hb, xWorks H e wv, xHeard H e hb] h
abbrev cRow (p mb : Nat) (s : CS) : HProp := row p 106 [I s.node, I s.life, I s.count, .map (some mb)]
def kvC {ν : Type} (f : CE → ν) (zs : List CE) : List (K3 × ν) := zs.map fun e => (e.k, f e)
abbrev msC (zs : List CE) : List (K3 × Value) := kvC (fun e => ptrC e.p) zs
abbrev tsC (zs : List CE) : List (K3 × TX) := kvC CE.x zs
abbrev cMap (mb : Nat) (zs : List CE) : HProp := mapO ek3 rVal false Heap.empty mb (msC zs)
def coordO (H : Heap) (p : Nat) (s : CS) : HProp := fun h => ∃ mb zs, big [cRow p mb s, cMap mb zs, bigL (xA H) zs] h ∧ s.ts = tsC zs
theorem kv_keys {ν : Type} {f : CE → ν} {zs : List CE} : (kvC f zs).map (·.1) = zs.map CE.k := by simp only [kvC, List.map_map]; rfl
theorem kv_in {ν : Type} {f : CE → ν} {zs : List CE} {e : CE} (hn : (zs.map CE.k).Nodup) (he : e ∈ zs) : mget e.k (kvC f zs) = some (f e) :=
  mget_of_mem (by rw [kv_keys]; exact hn) (List.mem_map.2 ⟨e, he, rfl⟩)
theorem kv_out {ν : Type} {f : CE → ν} {zs : List CE} {k : K3} (hn : ∀ e ∈ zs, e.k ≠ k) : mget k (kvC f zs) = none := by
  rw [mget_none, kv_keys]
  intro h
  obtain ⟨e, he, rfl⟩ := List.mem_map.1 h
  exact hn e he rfl
theorem c_cases (zs : List CE) (k : K3) : (∃ l1 e l2, zs = l1 ++ e :: l2 ∧ e.k = k) ∨ ∀ e ∈ zs, e.k ≠ k := by
  by_cases h : ∃ e ∈ zs, e.k = k
  · obtain ⟨e, he, hn⟩ := h
    obtain ⟨l1, l2, rfl⟩ := List.append_of_mem he
    exact .inl ⟨l1, e, l2, rfl, hn⟩
  · exact .inr fun e he hn => h ⟨e, he, hn⟩
theorem kv_del {ν : Type} {f : CE → ν} {l1 l2 : List CE} {e : CE} (h : ((l1 ++ e :: l2).map CE.k).Nodup) : mdel e.k (kvC f (l1 ++ e :: l2)) = kvC f (l1 ++ l2) := by
  induction l1 with
  | nil => simp [kvC, mdel]
  | cons x l1 ih =>
    rw [List.cons_append, List.map_cons, List.nodup_cons] at h
    have hx : ¬ e.k = x.k := fun e1 => h.1 (by rw [← e1]; simp)
    have : mdel e.k (kvC f (x :: l1 ++ e :: l2)) = (x.k, f x) :: mdel e.k (kvC f (l1 ++ e :: l2)) := by
      simp only [List.cons_append, kvC, List.map_cons, mdel]; rw [if_neg hx]
    rw [this, ih h.2]
    rfl
theorem kv_new {ν : Type} {f : CE → ν} {zs : List CE} {e : CE} (hn : ∀ x ∈ zs, x.k ≠ e.k) : mset e.k (f e) (kvC f zs) = kvC f (zs ++ [e]) := by
  induction zs with
  | nil => simp [kvC, mset]
  | cons x zs ih =>
    have hx : ¬ e.k = x.k := fun e1 => hn x (by simp) e1.symm
    have : mset e.k (f e) (kvC f (x :: zs)) = (x.k, f x) :: mset e.k (f e) (kvC f zs) := by
      simp only [kvC, List.map_cons, mset]; rw [if_neg hx]
    rw [this, ih fun y hy => hn y (by simp [hy])]
    rfl
theorem kv_set {ν : Type} {f : CE → ν} {l1 l2 : List CE} {e e' : CE} (h : ((l1 ++ e :: l2).map CE.k).Nodup) (hn : e'.k = e.k) : mset e'.k (f e') (kvC f (l1 ++ e :: l2)) = kvC f (l1 ++ e' :: l2) := by
  induction l1 with
  | nil => simp [kvC, mset, hn]
  | cons x l1 ih =>
    rw [List.cons_append, List.map_cons, List.nodup_cons] at h
    have hx : ¬ e'.k = x.k := fun e1 => h.1 (by rw [← e1, hn]; simp)
    have : mset e'.k (f e') (kvC f (x :: l1 ++ e :: l2)) = (x.k, f x) :: mset e'.k (f e') (kvC f (l1 ++ e :: l2)) := by
      simp only [List.cons_append, kvC, List.map_cons, mset]; rw [if_neg hx]
    rw [this, ih h.2]
    rfl
theorem kv_same {ν : Type} {f : CE → ν} {l1 l2 : List CE} {e e' : CE} (hk : e'.k = e.k) (hf : f e' = f e) : kvC f (l1 ++ e' :: l2) = kvC f (l1 ++ e :: l2) := by
  simp [kvC, hk, hf]
theorem mapO_mono {κ ν : Type} [DecidableEq κ] {ek : κ → Value} {R : Go.Sx.Rd ν} {ag : Bool} {H H' : Heap} {b n : Nat} {m : List (κ × ν)} {h : Heap} [RdOk R n] (hl : H.le H') (hm : mapO ek R ag H b m h) : mapO ek R ag H' b m h := by
  obtain ⟨es, c, a, e⟩ := hm
  exact ⟨es, c, a.mono hl, e⟩
theorem xWorks_mono {H H' : Heap} {e : CE} {wv : Value} {h : Heap} (hl : H.le H') (hw : xWorks H e wv h) : xWorks H' e wv h := by
  rcases hw with hw | ⟨ho, wb, hwb, hm⟩
  · exact .inl hw
  · exact .inr ⟨ho, wb, hwb, mapO_mono hl hm⟩
theorem xA_mono {H H' : Heap} {e : CE} {h : Heap} (hl : H.le H') (hx : xA H e h) : xA H' e h := by
  obtain ⟨hs, wv, hb, h1, h2, a1, ⟨b1, b2, b3, ⟨c1, c2, c3, c4⟩, b5⟩, a3⟩ := hx
  exact ⟨hs.mono hl, wv, hb, h1, h2, a1, ⟨b1, b2, xWorks_mono hl b3, ⟨c1, c2, mapO_mono hl c3, c4⟩, b5⟩, a3⟩
theorem big_mono {ι : Type} {A B : ι → HProp} (hab : ∀ e h, A e h → B e h) : ∀ {l : List ι} {h : Heap}, big (l.map A) h → big (l.map B) h
  | [], h, hb => hb
  | e :: l, h, ⟨h1, h2, ha, hb, r⟩ => ⟨h1, h2, hab e h1 ha, big_mono hab hb, r⟩
theorem coord_mono {H H' : Heap} {p : Nat} {s : CS} {h : Heap} (hl : H.le H') (hc : coordO H p s h) : coordO H' p s h := by
  obtain ⟨mb, zs, ⟨h1, h2, a1, ⟨b1, b2, b3, ⟨c1, c2, c3, c4⟩, b5⟩, a3⟩, e⟩ := hc
  exact ⟨mb, zs, ⟨h1, h2, a1, ⟨b1, b2, b3, ⟨c1, c2, big_mono (fun _ _ h => xA_mono hl h) c3, c4⟩, b5⟩, a3⟩, e⟩
theorem coord_up {H H' : Heap} {p : Nat} {s : CS} {L : List HProp} (hl : H.le H') : Sub (coordO H p s :: L) (coordO H' p s :: L) := fun h ⟨h1, h2, hc, r⟩ => ⟨h1, h2, coord_mono hl hc, r⟩
theorem xA_up {H H' : Heap} {e : CE} {L : List HProp} (hl : H.le H') : Sub (xA H e :: L) (xA H' e :: L) := fun h ⟨h1, h2, hc, r⟩ => ⟨h1, h2, xA_mono hl hc, r⟩
theorem xL_up {H H' : Heap} {zs : List CE} {L : List HProp} (hl : H.le H') : Sub (bigL (xA H) zs :: L) (bigL (xA H') zs :: L) := fun h ⟨h1, h2, hc, r⟩ => ⟨h1, h2, big_mono (fun _ _ h => xA_mono hl h) hc, r⟩
theorem coord_fold {H : Heap} {p mb : Nat} {s : CS} {zs : List CE} {L : List HProp} (hs : s.ts = tsC zs) : Sub (cRow p mb s :: cMap mb zs :: bigL (xA H) zs :: L) (coordO H p s :: L) :=
  sub_fold (B := [cRow p mb s, cMap mb zs, bigL (xA H) zs]) (Sub.refl _) fun h hb => ⟨mb, zs, hb, hs⟩
theorem coord_shut {H H' : Heap} {p mb : Nat} {s : CS} {zs : List CE} {L : List HProp} (hs : s.ts = tsC zs) (hl : H.le H') : Sub (cRow p mb s :: cMap mb zs :: bigL (xA H) zs :: L) (coordO H' p s :: L) :=
  (coord_fold hs).trans (coord_up hl)
theorem xA_shut {H H' : Heap} {e : CE} {wv : Value} {hb : Nat} {L : List HProp} (hs : SlB rInt 1 8 H' e.v e.x.parts) (hl : H.le H') : Sub (xRow e wv hb :: xWorks H e wv :: xHeard H e hb :: L) (xA H' e :: L) :=
  (sub_fold (B := [xRow e wv hb, xWorks H e wv, xHeard H e hb]) (A := fun h => ∃ wv hb, big [xRow e wv hb, xWorks H e wv, xHeard H e hb] h) (Sub.refl _) fun h hb' => ⟨wv, hb, hb'⟩).trans fun h ⟨h1, h2, ⟨wv', hb', a1, a2, r1, ⟨b1, b2, b3, ⟨c1, c2, c3, c4⟩, b5⟩, a3⟩, r⟩ => ⟨h1, h2, ⟨hs, wv', hb', a1, a2, r1, ⟨b1, b2, xWorks_mono hl b3, ⟨c1, c2, mapO_mono hl c3, c4⟩, b5⟩, a3⟩, r⟩
theorem cloneI_spec {W0 : World} {H : Heap} {v : Value} {xs : List Int} (h0 : SlB rInt 1 8 H v xs) :
    Ct Tryz.prog 27 #[v] W0 H [] (fun r H' B => B = [ownS rInt 1 8 3 H r xs] ∧ H' = H) := by
  refine Ct.go fun R => ?_
  obtain ⟨b0, c0, rfl, hc0, hd0⟩ := h0.1.shape
  refine walk ?_
  refine ex_if rfl (fun h => ?_) (fun h => ?_)
  · subst h
    refine walk ?_
    obtain rfl : xs = [] := by
      obtain ⟨⟨cs, ⟨b, c, e, _, hl, _, h⟩, _⟩, _⟩ := h0
      cases e
      rcases h with h | ⟨b, off, h, _⟩
      · exact List.eq_nil_of_length_eq_zero h
      · cases h
    refine finB [ownS rInt 1 8 3 H (.slice none 0 0) []] ?_ (hs := ownS_nil)
    exact ⟨rfl, rfl⟩
  · refine walk ?_
    refine ops_mk0 (w := 8) rInt rfl fun b => ?_
    refine walk ?_
    refine ops_appS rfl rfl h0.1 (by simpa using h0.2) fun base cap => ?_
    refine walk ?_
    refine finB [_] ?_
    exact ⟨rfl, rfl⟩
theorem indexI_spec {W0 : World} {H : Heap} {v : Value} {xs : List Int} {x : Int} (h0 : SlR rInt 1 H v xs) :
    Ct Tryz.prog 76 #[v, I x] W0 H [] (fun r H' B => ((r = I (-1) ∧ x ∉ xs) ∨ ∃ j : Nat, ∃ h : j < xs.length, r = I j ∧ xs[j] = x) ∧ B = [] ∧ H' = H) := by
  refine Ct.go (vs := [v, I x]) fun R => ?_
  obtain ⟨b0, c0, rfl, hc0, hd0⟩ := h0.shape
  refine walk ?_
  refine ex_loop (σ := Nat) (fun k => k ≤ xs.length ∧ x ∉ xs.take k) (fun k => [(0, .slice b0 xs.length c0), (1, I x), (7, I xs.length), (8, I k)]) (fun _ => H) (fun _ => R) (fun k => xs.length - k) 0 ⟨Nat.zero_le _, by simp⟩ fun k ⟨hk0, hno⟩ K hL => ?_
  refine walk ?_
  refine ex_if rfl (fun hk => ?_) (fun hk => ?_)
  · have hk1 : k < xs.length := by omega
    have ht := List.take_succ_eq_append_getElem hk1
    refine walk ?_
    refine ex_if rfl (fun hq => ?_) (fun hq => ?_)
    · refine walk ?_
      refine fin0 ?_
      exact ⟨.inr ⟨k, hk1, rfl, hq.symm⟩, rfl, rfl⟩
    · refine walk ?_
      refine out_next hL (k + 1) ⟨by omega, ?_⟩
      rw [ht, List.mem_append, List.mem_singleton]
      rintro (h | h)
      · exact hno h
      · exact hq h
  · clear hL
    obtain rfl : k = xs.length := by omega
    rw [List.take_length] at hno
    refine walk ?_
    refine fin0 ?_
    exact ⟨.inl ⟨rfl, hno⟩, rfl, rfl⟩
theorem containsI_spec {W0 : World} {H : Heap} {v : Value} {xs : List Int} {x : Int} (h0 : SlR rInt 1 H v xs) :
    Ct Tryz.prog 55 #[v, I x] W0 H [] (fun r H' B => r = .bool (decide (x ∈ xs)) ∧ B = [] ∧ H' = H) := by
  refine Ct.go (vs := [v, I x]) fun R => ?_
  refine walk ?_
  refine ops_call rfl rfl (indexI_spec h0) fun r1 H1 B hl1 ⟨hr, eB, eH⟩ => ?_
  subst eB eH
  rcases hr with ⟨rfl, hno⟩ | ⟨j, hj, rfl, hx⟩
  · refine walk ?_
    refine fin0 ?_
    exact ⟨by rw [decide_eq_false hno], rfl, rfl⟩
  · have hge : (0 : Int) ≤ (j : Int) := by omega
    refine walk ?_
    refine fin0 ?_
    exact ⟨by rw [decide_eq_true (hx ▸ List.getElem_mem hj)], rfl, rfl⟩
theorem rising_spec {W0 : World} {H : Heap} {v : Value} {xs : List Int} (h0 : SlR rInt 1 H v xs) :
    Ct Tryz.prog 63 #[v] W0 H [] (fun r H' B => (∃ q, r = .bool q ∧ (q = true ↔ xs.Pairwise (· < ·))) ∧ B = [] ∧ H' = H) := by
  refine Ct.go (vs := [v]) fun R => ?_
  obtain ⟨b0, c0, rfl, hc0, hd0⟩ := h0.shape
  refine walk ?_
  refine ex_loop (σ := Nat) (fun k => 1 ≤ k ∧ (k ≤ xs.length ∨ k = 1) ∧ (xs.take k).Pairwise (· < ·)) (fun k => [(0, .slice b0 xs.length c0), (3, I k)]) (fun _ => H) (fun _ => R) (fun k => xs.length - k) 1 ⟨Nat.le_refl _, .inr rfl, ?_⟩ fun k ⟨hk0, hk2, hp⟩ K hL => ?_
  · cases xs <;> simp
  refine walk ?_
  refine ex_if rfl (fun hk => ?_) (fun hk => ?_)
  · have hk1 : k < xs.length := by omega
    have hkp : k - 1 < xs.length := by omega
    have ht := List.take_succ_eq_append_getElem hk1
    have hci : ((k : Int) - 1) = ((k - 1 : Nat) : Int) := by omega
    refine walk ?_
    rw [hci]
    refine walk ?_
    have hst : (xs.take (k + 1)).Pairwise (· < ·) ↔ xs[k - 1] < xs[k] := by
      rw [ht, List.pairwise_append]
      constructor
      · rintro ⟨_, _, h⟩
        refine h _ ?_ _ (by simp)
        rw [List.mem_take_iff_getElem]
        exact ⟨k - 1, by omega, rfl⟩
      · intro h
        refine ⟨hp, by simp, fun a ha b hb => ?_⟩
        rw [List.mem_singleton] at hb
        subst hb
        obtain ⟨j, hj, rfl⟩ := List.mem_take_iff_getElem.1 ha
        have hj' : j < k ∧ j < xs.length := by omega
        by_cases e : j = k - 1
        · subst e; exact h
        · have h3 := (List.pairwise_iff_getElem.1 hp) j (k - 1) (by simp; omega) (by simp; omega) (by omega)
          simp only [List.getElem_take] at h3
          omega
    refine ex_if rfl (fun hq => ?_) (fun hq => ?_)
    · refine walk ?_
      refine fin0 ?_
      refine ⟨⟨false, rfl, ⟨fun h => (by cases h), fun h => ?_⟩⟩, rfl, rfl⟩
      have := hst.1 (h.sublist (List.take_sublist _ _))
      omega
    · refine walk ?_
      exact out_next hL (k + 1) ⟨by omega, .inl (by omega), hst.2 (by omega)⟩
  · clear hL
    refine walk ?_
    refine fin0 ?_
    refine ⟨⟨true, rfl, ⟨fun _ => ?_, fun _ => rfl⟩⟩, rfl, rfl⟩
    rwa [List.take_of_length_le (by omega)] at hp
theorem cOwn_spec {W0 : World} {H : Heap} {c : List Value} {m : Work} (h0 : rWork H c m) :
    Ct Tryz.prog 31 #[.agg c.toArray] W0 H [] (fun r H' B => ∃ cs, r = .agg cs.toArray ∧ rWork H' cs m ∧ B = []) := by
  refine Ct.go fun R => ?_
  obtain ⟨s1, s2, rfl, f1, h1, h2⟩ := h0
  refine walk ?_
  refine ops_box rfl rfl fun p1 _ => ?_
  refine ops_alloc rfl fun p2 _ => ?_
  refine walk ?_
  refine ex_any 7 [row p1 38 (m.cv s1 s2)] ?_
  refine stepY 0 ?_; refine stepY 1 ?_
  refine stepY 3 ?_; refine stepY 4 ?_
  refine any_call 2 rfl rfl (cloneT_spec h1) fun r1 H1 B hl1 ⟨eB, eH⟩ => ?_
  subst eB eH
  refine ⟨subA, ?_⟩
  refine stepY 6 ?_
  refine any_call 5 rfl rfl (cloneT_spec h2) fun r2 H2 B hl2 ⟨eB, eH⟩ => ?_
  subst eB eH
  refine ⟨subA, ?_⟩
  refine any_rest rfl ?_
  refine ops_shape r1 fun d1 e1 e _ _ _ => ?_
  subst e
  refine ops_shape r2 fun d2 e2 e _ _ _ => ?_
  subst e
  refine walk ?_
  refine out_freeze (.slice d1 m.Take.length e1) fun H3 hl3 k1 => ?_
  refine out_freeze (.slice d2 m.Drop.length e2) fun H4 hl4 k2 => ?_
  refine fin0 ?_
  exact ⟨m.cv (.slice d1 m.Take.length e1) (.slice d2 m.Drop.length e2), rfl, ⟨_, _, rfl, f1, k1.mono hl4, k2⟩, rfl⟩
theorem late_spec {W0 : World} {H : Heap} {b n : Int} (hb : fits b) (hn : fits n) :
    Ct Tryz.prog 45 #[I b, I n] W0 H [] (fun r H' B => r = .bool (decide (lateT b n)) ∧ B = [] ∧ H' = H) := by
  refine Ct.go (vs := [I b, I n]) fun R => ?_
  by_cases h : b ≤ n
  · refine walk ?_
    refine fin0 ?_
    have hw : IntKind.u64.wrap (IntKind.u64.wrap n - IntKind.u64.wrap b) = n - b := by
      unfold fits at hb hn
      have hk : ∀ z : Int, IntKind.u64.wrap z = z % 18446744073709551616 := fun z => by simp [IntKind.wrap, IntKind.signed, IntKind.bits]
      rw [hk, hk, hk]
      omega
    rw [hw]
    exact ⟨bdec ⟨fun h2 => ⟨h, h2⟩, fun h2 => h2.2⟩, rfl, rfl⟩
  · refine walk ?_
    refine fin0 ?_
    exact ⟨by rw [decide_eq_false (fun h2 : lateT b n => h h2.1)], rfl, rfl⟩
end Go.Proofs.YtpphdbnifbjfmaaGreatDoor
