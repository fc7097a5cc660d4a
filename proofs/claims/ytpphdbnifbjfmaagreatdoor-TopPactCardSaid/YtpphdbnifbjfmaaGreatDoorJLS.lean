/- Expire, walked. -/
import Derived.Test.YtpphdbnifbjfmaaGreatDoorJLH
import Derived.Test.YtpphdbnifbjfmaaGreatDoorJLY
set_option linter.unusedVariables false
set_option linter.unusedSimpArgs false
namespace Go.Proofs.YtpphdbnifbjfmaaGreatDoor
open Go Go.Sx Go.Proofs
open Go Go.Sx Go.Proofs
open Go Go.Sx Go.Proofs
open Go Go.Sx Go.Proofs
open Go Go.Sx Go.Proofs
end Go.Proofs.YtpphdbnifbjfmaaGreatDoor
namespace Go.Proofs.YtpphdbnifbjfmaaGreatDoor
open Go Go.Sx Go.Proofs
instance : LawfulBEq ByteArray where
  eq_of_beq h := by rw [ba_beq] at h; simpa using h
  rfl := fun {a} => by rw [ba_beq]; simp
theorem rise_eq {α : Type} {lt : α → α → Prop} (irr : ∀ a, ¬ lt a a) (asy : ∀ a b, lt a b → ¬ lt b a) : ∀ {l l' : List α}, l.Pairwise lt → l'.Pairwise lt → (∀ a, a ∈ l ↔ a ∈ l') → l = l'
  | [], [], _, _, _ => rfl
  | [], b :: l', _, _, h => absurd ((h b).2 (by simp)) (by simp)
  | a :: l, [], _, _, h => absurd ((h a).1 (by simp)) (by simp)
  | a :: l, b :: l', h1, h2, h => by
    rw [List.pairwise_cons] at h1 h2
    have hab : a = b := by
      rcases List.mem_cons.1 ((h a).1 (by simp)) with e | e
      · exact e
      · rcases List.mem_cons.1 ((h b).2 (by simp)) with e' | e'
        · exact e'.symm
        · exact absurd (h1.1 b e') (asy _ _ (h2.1 a e))
    subst hab
    refine congrArg _ (rise_eq irr asy h1.2 h2.2 fun x => ?_)
    have hx := h x
    simp only [List.mem_cons] at hx
    constructor
    · intro hm
      rcases hx.1 (.inr hm) with e | e
      · subst e; exact absurd (h1.1 x hm) (irr x)
      · exact e
    · intro hm
      rcases hx.2 (.inr hm) with e | e
      · subst e; exact absurd (h2.1 x hm) (irr x)
      · exact e
structure HSpec (l : List Hold) (f : ByteArray → Option Int) : Prop where
  rise : l.Pairwise fun a b => SLt a.Key b.Key
  mem : ∀ h, h ∈ l ↔ f h.Key = some h.Robot
theorem HSpec.uniq {l l' : List Hold} {f : ByteArray → Option Int} (h : HSpec l f) (h' : HSpec l' f) : l = l' :=
  rise_eq (lt := fun a b : Hold => SLt a.Key b.Key) (fun _ => slt_irr) (fun _ _ => slt_asymm) h.rise h'.rise fun a => by rw [h.mem, h'.mem]
theorem HSpec.congr {l : List Hold} {f g : ByteArray → Option Int} (h : HSpec l f) (e : ∀ k, f k = g k) : HSpec l g := by
  obtain rfl : f = g := funext e
  exact h
theorem sortT_rise {xs : List ByteArray} (h : xs.Nodup) : (sortT xs).Pairwise SLt := by
  have tr : ∀ a b c : List UInt8, leB a b = true → leB b c = true → leB a c = true := fun a b c h1 h2 => by
    simp only [leB, decide_eq_true_eq] at *
    exact List.le_trans h1 h2
  have to : ∀ a b : List UInt8, (leB a b || leB b a) = true := fun a b => by
    simp only [leB, Bool.or_eq_true, decide_eq_true_eq]
    exact List.le_total a b
  have h1 := List.pairwise_mergeSort tr to (xs.map fun s => s.data.toList)
  have h2 : ((xs.map fun s => s.data.toList).mergeSort leB).Nodup := by
    refine (List.mergeSort_perm _ _).nodup_iff.2 ?_
    rw [List.nodup_iff_pairwise_ne, List.pairwise_map]
    exact (List.nodup_iff_pairwise_ne.1 h).imp fun h e => h (text_ext e)
  unfold sortT
  rw [List.pairwise_map]
  rw [List.nodup_iff_pairwise_ne] at h2
  refine (h1.and h2).imp fun {a b} ⟨e1, e2⟩ => ?_
  rw [slt_iff]
  simp only [leB, decide_eq_true_eq] at e1
  have e3 : (sb a).data.toList = a := by simp [sb]
  have e4 : (sb b).data.toList = b := by simp [sb]
  rw [e3, e4]
  by_cases h : a < b
  · exact h
  · exact absurd (List.le_antisymm e1 (List.not_lt.1 h)) e2
theorem mget_iff {κ ν : Type} [DecidableEq κ] {m : List (κ × ν)} (hn : (m.map (·.1)).Nodup) {k : κ} {v : ν} : mget k m = some v ↔ (k, v) ∈ m := ⟨mget_mem, mget_of_mem hn⟩
theorem mget_key {κ ν : Type} [DecidableEq κ] {m : List (κ × ν)} {k : κ} : k ∈ m.map (·.1) ↔ ∃ v, mget k m = some v := by
  have h := mget_none (k := k) (m := m)
  cases hm : mget k m with
  | none => exact ⟨fun h' => absurd h' (h.1 hm), fun ⟨v, e⟩ => (by cases e)⟩
  | some v => exact ⟨fun _ => ⟨v, rfl⟩, fun _ => Classical.byContradiction fun hc => by rw [h.2 hc] at hm; cases hm⟩
theorem holdsL_spec {s : TS} (hn : (s.held.map (·.1)).Nodup) : HSpec (holdsL s) (fun k => mget k s.held) := by
  refine ⟨?_, fun h => ?_⟩
  · unfold holdsL
    rw [List.pairwise_map]
    exact (sortT_rise hn).imp fun h => h
  · unfold holdsL
    rw [List.mem_map]
    constructor
    · rintro ⟨k, hk, rfl⟩
      obtain ⟨v, hv⟩ := mget_key.1 (mem_sortT.1 hk)
      simp only [holdOf, hv, Option.getD_some]
    · intro hg
      refine ⟨h.Key, mem_sortT.2 (mget_key.2 ⟨_, hg⟩), ?_⟩
      simp only [holdOf, hg, Option.getD_some]
def recW (x : Txn) (w : Work) : Rec := ⟨2, x, w, false, []⟩
structure PSpec (l : List Rec) (g : K3 → Option Work) : Prop where
  rise : l.Pairwise fun a b => ltK a.Txn.k b.Txn.k
  mem : ∀ q, q ∈ l ↔ ∃ w, g q.Txn.k = some w ∧ q = recW q.Txn w
theorem ltK_irr {a : K3} : ¬ ltK a a := by unfold ltK; omega
theorem ltK_asy {a b : K3} (h : ltK a b) : ¬ ltK b a := by unfold ltK at *; omega
theorem ltK_trans {a b c : K3} (h : ltK a b) (h' : ltK b c) : ltK a c := by unfold ltK at *; omega
theorem k_inj {x y : Txn} (h : x.k = y.k) : x = y := by
  have := congrArg toTx h
  rwa [toTx_k, toTx_k] at this
theorem PSpec.uniq {l l' : List Rec} {g : K3 → Option Work} (h : PSpec l g) (h' : PSpec l' g) : l = l' :=
  rise_eq (lt := fun a b : Rec => ltK a.Txn.k b.Txn.k) (fun _ => ltK_irr) (fun _ _ => ltK_asy) h.rise h'.rise fun a => by rw [h.mem, h'.mem]
theorem PSpec.congr {l : List Rec} {f g : K3 → Option Work} (h : PSpec l f) (e : ∀ k, f k = g k) : PSpec l g := by
  obtain rfl : f = g := funext e
  exact h
theorem sort3_rise {xs : List K3} (h : xs.Nodup) : (sort3 xs).Pairwise ltK := by
  have tr : ∀ a b c : K3, (!(ltOf ordI) b a) = true → (!(ltOf ordI) c b) = true → (!(ltOf ordI) c a) = true := fun a b c h1 h2 => by
    simp only [Bool.not_eq_true', ← Bool.not_eq_true, ltOf_iff] at *
    unfold ltK at *
    omega
  have to : ∀ a b : K3, ((!(ltOf ordI) b a) || (!(ltOf ordI) a b)) = true := fun a b => by
    simp only [Bool.or_eq_true, Bool.not_eq_true', ← Bool.not_eq_true, ltOf_iff]
    unfold ltK
    omega
  have h1 := List.pairwise_mergeSort tr to xs
  have h2 : (xs.mergeSort fun x y => !(ltOf ordI) y x).Nodup := (List.mergeSort_perm _ _).nodup_iff.2 h
  rw [List.nodup_iff_pairwise_ne] at h2
  unfold sort3
  refine (h1.and h2).imp fun {a b} ⟨e1, e2⟩ => ?_
  simp only [Bool.not_eq_true', ← Bool.not_eq_true, ltOf_iff] at e1
  refine Classical.byContradiction fun h3 => e2 (ltK_tot h3 e1)
def gW (s : TS) (k : K3) : Option Work := (mget k s.works).map (·.2)
theorem prepL_spec {s : TS} (hn : (s.works.map (·.1)).Nodup) : PSpec (prepL s) (gW s) := by
  refine ⟨?_, fun q => ?_⟩
  · unfold prepL
    rw [List.pairwise_map]
    exact (sort3_rise hn).imp fun h => h
  · unfold prepL gW
    rw [List.mem_map]
    constructor
    · rintro ⟨k, hk, rfl⟩
      obtain ⟨v, hv⟩ := mget_key.1 (mem_sort3.1 hk)
      refine ⟨v.2, ?_, ?_⟩
      · show (mget (toTx k).k s.works).map _ = _
        rw [k_toTx, hv]; rfl
      · simp only [recOf, recW, hv, Option.getD_some]
    · rintro ⟨w, hg, hq⟩
      cases hm : mget q.Txn.k s.works with
      | none => rw [hm] at hg; cases hg
      | some v =>
        rw [hm] at hg
        cases hg
        refine ⟨q.Txn.k, mem_sort3.2 (mget_key.2 ⟨_, hm⟩), ?_⟩
        rw [hq]
        simp only [recOf, recW, hm, Option.getD_some, toTx_k]
def holdL (k : ByteArray) (r : Int) : Bool → List Hold → List Hold
  | put, [] => if put = true then [] else [⟨k, r⟩]
  | put, h :: t => (if put = false ∧ SLt k h.Key then [⟨k, r⟩] else []) ++ ((if h.Key = k then [] else [h]) ++ holdL k r (put || decide (SLt k h.Key)) t)
theorem holdL_mem {k : ByteArray} {r : Int} {h : Hold} : ∀ {l : List Hold} {put : Bool}, h ∈ holdL k r put l ↔ (h ∈ l ∧ h.Key ≠ k) ∨ (put = false ∧ h = ⟨k, r⟩)
  | [], put => by cases put <;> simp [holdL]
  | a :: t, put => by
    have ih := holdL_mem (k := k) (r := r) (h := h) (l := t) (put := put || decide (SLt k a.Key))
    have e1 : h ∈ (if a.Key = k then ([] : List Hold) else [a]) ↔ h = a ∧ a.Key ≠ k := by by_cases hk : a.Key = k <;> simp [hk]
    simp only [holdL, List.mem_append, ih, e1, List.mem_cons]
    cases put with
    | true =>
      simp only [Bool.true_or, Bool.true_eq_false, false_and, if_false, List.not_mem_nil, false_or, or_false]
      constructor
      · rintro (⟨rfl, h2⟩ | ⟨h1, h2⟩)
        · exact ⟨.inl rfl, h2⟩
        · exact ⟨.inr h1, h2⟩
      · rintro ⟨rfl | h1, h2⟩
        · exact .inl ⟨rfl, h2⟩
        · exact .inr ⟨h1, h2⟩
    | false =>
      by_cases hs : SLt k a.Key
      · simp only [hs, decide_true, Bool.false_or, true_and, and_true, if_true, List.mem_singleton, Bool.true_eq_false, false_and, or_false]
        constructor
        · rintro (h | ⟨rfl, h2⟩ | ⟨h1, h2⟩)
          · exact .inr h
          · exact .inl ⟨.inl rfl, h2⟩
          · exact .inl ⟨.inr h1, h2⟩
        · rintro (⟨rfl | h1, h2⟩ | h)
          · exact .inr (.inl ⟨rfl, h2⟩)
          · exact .inr (.inr ⟨h1, h2⟩)
          · exact .inl h
      · simp only [hs, decide_false, Bool.false_or, and_false, if_false, List.not_mem_nil, false_or, true_and]
        constructor
        · rintro (⟨rfl, h2⟩ | ⟨h1, h2⟩ | h)
          · exact .inl ⟨.inl rfl, h2⟩
          · exact .inl ⟨.inr h1, h2⟩
          · exact .inr h
        · rintro (⟨rfl | h1, h2⟩ | h)
          · exact .inl ⟨rfl, h2⟩
          · exact .inr (.inl ⟨h1, h2⟩)
          · exact .inr (.inr h)
theorem holdL_rise {k : ByteArray} {r : Int} : ∀ {l : List Hold} {put : Bool}, l.Pairwise (fun a b => SLt a.Key b.Key) → (holdL k r put l).Pairwise (fun a b => SLt a.Key b.Key)
  | [], put, _ => by cases put <;> simp [holdL]
  | a :: t, put, h => by
    rw [List.pairwise_cons] at h
    have ih := fun p => holdL_rise (k := k) (r := r) (l := t) (put := p) h.2
    have hm := fun p x => holdL_mem (k := k) (r := r) (h := x) (l := t) (put := p)
    have hin : ∀ p, (p = false → ¬ SLt k a.Key) → ((if a.Key = k then ([] : List Hold) else [a]) ++ holdL k r p t).Pairwise (fun a b => SLt a.Key b.Key) := fun p hp => by
      by_cases hk : a.Key = k
      · rw [if_pos hk]; exact ih p
      · rw [if_neg hk, List.singleton_append, List.pairwise_cons]
        refine ⟨fun x hx => ?_, ih p⟩
        rcases (hm p x).1 hx with ⟨h1, _⟩ | ⟨h1, rfl⟩
        · exact h.1 x h1
        · rcases slt_tri (s := a.Key) (t := k) with h2 | h2 | h2
          · exact h2
          · exact absurd h2 hk
          · exact absurd h2 (hp h1)
    simp only [holdL]
    by_cases hc : put = false ∧ SLt k a.Key
    · rw [if_pos hc, List.singleton_append, List.pairwise_cons]
      refine ⟨fun x hx => ?_, hin _ (by simp [hc.2])⟩
      rw [List.mem_append] at hx
      rcases hx with hx | hx
      · by_cases hk : a.Key = k
        · rw [if_pos hk] at hx; cases hx
        · rw [if_neg hk, List.mem_singleton] at hx; subst hx; exact hc.2
      · rcases (hm _ x).1 hx with ⟨h1, _⟩ | ⟨h1, rfl⟩
        · exact slt_trans hc.2 (h.1 x h1)
        · simp [hc.2] at h1
    · rw [if_neg hc, List.nil_append]
      refine hin _ fun hp hs => ?_
      simp only [Bool.or_eq_false_iff] at hp
      exact hc ⟨hp.1, hs⟩
theorem HSpec.hold {l : List Hold} {f : ByteArray → Option Int} (h : HSpec l f) (k : ByteArray) (r : Int) (put : Bool) : HSpec (holdL k r put l) (fun k' => if k' = k then (if put = true then none else some r) else f k') := by
  refine ⟨holdL_rise h.rise, fun x => ?_⟩
  rw [holdL_mem, h.mem]
  obtain ⟨xk, xr⟩ := x
  by_cases e : xk = k
  · subst e
    cases put <;> simp [eq_comm]
  · simp [e]
theorem mdel_nodup {κ ν : Type} [DecidableEq κ] {m : List (κ × ν)} {k : κ} (h : (m.map (·.1)).Nodup) : ((mdel k m).map (·.1)).Nodup := h.sublist ((mdel_sub k m).map _)
theorem PSpec.none {l : List Rec} {g : K3 → Option Work} (h : PSpec l g) {x : Txn} (hx : ∀ q ∈ l, q.Txn ≠ x) : g x.k = none := by
  cases hg : g x.k with
  | none => rfl
  | some w => exact absurd rfl (hx (recW x w) ((h.mem _).2 ⟨w, hg, rfl⟩))
theorem dupT_iff {l : List ByteArray} : dupT l ↔ ¬ l.Nodup := by
  have tr : ∀ a b c : List UInt8, leB a b = true → leB b c = true → leB a c = true := fun a b c h1 h2 => by
    simp only [leB, decide_eq_true_eq] at *
    exact List.le_trans h1 h2
  have to : ∀ a b : List UInt8, (leB a b || leB b a) = true := fun a b => by
    simp only [leB, Bool.or_eq_true, decide_eq_true_eq]
    exact List.le_total a b
  have hs := List.pairwise_mergeSort tr to (l.map fun s => s.data.toList)
  have hp := List.mergeSort_perm (l.map fun s => s.data.toList) leB
  have hm : (sortT l).map (fun s => s.data.toList) = (l.map fun s => s.data.toList).mergeSort leB := by
    unfold sortT
    rw [List.map_map]
    exact (List.map_congr_left fun s _ => (by simp [sb] : ((fun s : ByteArray => s.data.toList) ∘ sb) s = s)).trans (List.map_id' _)
  unfold dupT compT
  rw [List.length_map, hm]
  have hnd : l.Nodup ↔ ((l.map fun s => s.data.toList).mergeSort leB).Nodup := by
    rw [hp.nodup_iff, List.nodup_iff_pairwise_ne, List.nodup_iff_pairwise_ne, List.pairwise_map]
    constructor
    · exact fun h => h.imp fun h e => h (text_ext e)
    · exact fun h => h.imp fun h e => h (by rw [e])
  have hlen : l.length = ((l.map fun s => s.data.toList).mergeSort leB).length := by rw [hp.length_eq, List.length_map]
  rw [hnd, hlen]
  generalize (l.map fun s => s.data.toList).mergeSort leB = z at *
  unfold Lib.compact Lib.compactUpTo
  rw [List.length_map]
  have hle := List.length_filter_le (Lib.keeps z.toArray) (List.range z.length)
  rw [List.length_range] at hle
  have hiff : ((List.range z.length).filter (Lib.keeps z.toArray)).length = z.length ↔ ∀ j < z.length, Lib.keeps z.toArray j = true := by
    constructor
    · intro h j hj
      have h2 := List.length_filter_eq_length_iff.1 (h.trans List.length_range.symm)
      exact h2 j (List.mem_range.2 hj)
    · intro h
      exact (List.length_filter_eq_length_iff.2 fun j hj => h j (List.mem_range.1 hj)).trans List.length_range
  have hkey : (∀ j < z.length, Lib.keeps z.toArray j = true) ↔ z.Nodup := by
    have hget : ∀ j (hj : j < z.length), z.toArray[j]! = z[j] := fun j hj => by rw [getElem!_pos z.toArray j (by simpa using hj)]; simp
    constructor
    · intro h
      rw [List.nodup_iff_pairwise_ne, List.pairwise_iff_getElem]
      intro i j hi hj hij e
      have hk := h j hj
      unfold Lib.keeps at hk
      rcases of_decide_eq_true hk with h0 | h0
      · omega
      · rw [hget j hj, hget (j - 1) (by omega)] at h0
        rw [List.pairwise_iff_getElem] at hs
        have h1 := hs (j - 1) j (by omega) hj (by omega)
        simp only [leB, decide_eq_true_eq] at h1
        have h2 : z[i] ≤ z[j - 1]'(by omega) := by
          rcases Nat.eq_or_lt_of_le (show i ≤ j - 1 by omega) with e2 | e2
          · subst e2; exact List.le_refl _
          · have := hs i (j - 1) hi (by omega) e2
            simpa only [leB, decide_eq_true_eq] using this
        rw [e] at h2
        exact h0 (List.le_antisymm h2 h1)
    · intro h j hj
      unfold Lib.keeps
      refine decide_eq_true ?_
      by_cases h0 : j = 0
      · exact .inl h0
      · right
        rw [hget j hj, hget (j - 1) (by omega)]
        intro e
        rw [List.nodup_iff_pairwise_ne, List.pairwise_iff_getElem] at h
        exact h (j - 1) j (by omega) hj (by omega) e.symm
  rw [← hkey, ← hiff]
  omega
theorem ReadP.form {l : List UInt8} {r : Value} (h : ReadP l r) : ∃ a b t ok, r = .tuple #[.agg #[I a, I b, I t], .bool ok] ∧ ((ok = true ∧ isKey l (a, b, t)) ∨ (ok = false ∧ (∀ k, ¬ isKey l k) ∧ a = 0 ∧ b = 0 ∧ t = 0)) := by
  rcases h with ⟨⟨a, b, t⟩, hk, rfl⟩ | ⟨hno, rfl⟩
  · exact ⟨a, b, t, true, rfl, .inl ⟨rfl, hk⟩⟩
  · exact ⟨0, 0, 0, false, rfl, .inr ⟨rfl, hno, rfl, rfl, rfl⟩⟩
theorem sb_self (k : ByteArray) : sb k.data.toList = k := (sb_of k).symm
end Go.Proofs.YtpphdbnifbjfmaaGreatDoor
