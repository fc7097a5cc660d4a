/- The reference's steps on lists in order; what sorting and compacting tells. No program in sight. -/
import Derived.Test.YtkhbfjkioehgfaaGreatDoorLN
set_option linter.unusedVariables false
set_option linter.unusedSimpArgs false
namespace Go.Proofs.YtkhbfjkioehgfaaGreatDoor
open Go Go.Sx Go.Proofs
/-- the held keys behind one more, or one less (put) -/
def holdL (k : ByteArray) (r : Int) : Bool → List Hold → List Hold
  | put, [] => if put = true then [] else [⟨k, r⟩]
  | put, h :: t => (if put = false ∧ SLt k h.Key then [⟨k, r⟩] else []) ++ ((if h.Key = k then [] else [h]) ++ holdL k r (put || decide (SLt k h.Key)) t)
theorem holdL_mem {k : ByteArray} {r : Int} {h : Hold} : ∀ {l : List Hold} {put : Bool}, h ∈ holdL k r put l ↔ (h ∈ l ∧ h.Key ≠ k) ∨ (put = false ∧ h = ⟨k, r⟩)
  | [], put => by cases put <;> simp [holdL]
  | a :: t, put => by
    have ih := holdL_mem (k := k) (r := r) (h := h) (l := t) (put := put || decide (SLt k a.Key))
    have e1 : h ∈ (if a.Key = k then ([] : List Hold) else [a]) ↔ h = a ∧ a.Key ≠ k := by by_cases hk : a.Key = k <;> simp [hk]
    simp only [holdL, List.mem_append, ih, e1, List.mem_cons]
    cases put with
    | true =>
      simp only [Bool.true_or, Bool.true_eq_false, false_and, if_false, List.not_mem_nil, false_or, or_false]
      constructor
      · rintro (⟨rfl, h2⟩ | ⟨h1, h2⟩)
        · exact ⟨.inl rfl, h2⟩
        · exact ⟨.inr h1, h2⟩
      · rintro ⟨rfl | h1, h2⟩
        · exact .inl ⟨rfl, h2⟩
        · exact .inr ⟨h1, h2⟩
    | false =>
      by_cases hs : SLt k a.Key
      · simp only [hs, decide_true, Bool.false_or, true_and, and_true, if_true, List.mem_singleton, Bool.true_eq_false, false_and, or_false]
        constructor
        · rintro (h | ⟨rfl, h2⟩ | ⟨h1, h2⟩)
          · exact .inr h
          · exact .inl ⟨.inl rfl, h2⟩
          · exact .inl ⟨.inr h1, h2⟩
        · rintro (⟨rfl | h1, h2⟩ | h)
          · exact .inr (.inl ⟨rfl, h2⟩)
          · exact .inr (.inr ⟨h1, h2⟩)
          · exact .inl h
      · simp only [hs, decide_false, Bool.false_or, and_false, if_false, List.not_mem_nil, false_or, true_and]
        constructor
        · rintro (⟨rfl, h2⟩ | ⟨h1, h2⟩ | h)
          · exact .inl ⟨.inl rfl, h2⟩
          · exact .inl ⟨.inr h1, h2⟩
          · exact .inr h
        · rintro (⟨rfl | h1, h2⟩ | h)
          · exact .inl ⟨rfl, h2⟩
          · exact .inr (.inl ⟨h1, h2⟩)
          · exact .inr (.inr h)
theorem holdL_rise {k : ByteArray} {r : Int} : ∀ {l : List Hold} {put : Bool}, l.Pairwise (fun a b => SLt a.Key b.Key) → (holdL k r put l).Pairwise (fun a b => SLt a.Key b.Key)
  | [], put, _ => by cases put <;> simp [holdL]
  | a :: t, put, h => by
    rw [List.pairwise_cons] at h
    have ih := fun p => holdL_rise (k := k) (r := r) (l := t) (put := p) h.2
    have hm := fun p x => holdL_mem (k := k) (r := r) (h := x) (l := t) (put := p)
    have hin : ∀ p, (p = false → ¬ SLt k a.Key) → ((if a.Key = k then ([] : List Hold) else [a]) ++ holdL k r p t).Pairwise (fun a b => SLt a.Key b.Key) := fun p hp => by
      by_cases hk : a.Key = k
      · rw [if_pos hk]; exact ih p
      · rw [if_neg hk, List.singleton_append, List.pairwise_cons]
        refine ⟨fun x hx => ?_, ih p⟩
        rcases (hm p x).1 hx with ⟨h1, _⟩ | ⟨h1, rfl⟩
        · exact h.1 x h1
        · rcases slt_tri (s := a.Key) (t := k) with h2 | h2 | h2
          · exact h2
          · exact absurd h2 hk
          · exact absurd h2 (hp h1)
    simp only [holdL]
    by_cases hc : put = false ∧ SLt k a.Key
    · rw [if_pos hc, List.singleton_append, List.pairwise_cons]
      refine ⟨fun x hx => ?_, hin _ (by simp [hc.2])⟩
      rw [List.mem_append] at hx
      rcases hx with hx | hx
      · by_cases hk : a.Key = k
        · rw [if_pos hk] at hx; cases hx
        · rw [if_neg hk, List.mem_singleton] at hx; subst hx; exact hc.2
      · rcases (hm _ x).1 hx with ⟨h1, _⟩ | ⟨h1, rfl⟩
        · exact slt_trans hc.2 (h.1 x h1)
        · simp [hc.2] at h1
    · rw [if_neg hc, List.nil_append]
      refine hin _ fun hp hs => ?_
      simp only [Bool.or_eq_false_iff] at hp
      exact hc ⟨hp.1, hs⟩
theorem HSpec.hold {l : List Hold} {f : ByteArray → Option Int} (h : HSpec l f) (k : ByteArray) (r : Int) (put : Bool) : HSpec (holdL k r put l) (fun k' => if k' = k then (if put = true then none else some r) else f k') := by
  refine ⟨holdL_rise h.rise, fun x => ?_⟩
  rw [holdL_mem, h.mem]
  obtain ⟨xk, xr⟩ := x
  by_cases e : xk = k
  · subst e
    cases put <;> simp [eq_comm]
  · simp [e]
theorem HSpec.filter {l : List Hold} {f : ByteArray → Option Int} (h : HSpec l f) (p : ByteArray → Bool) : HSpec (l.filter fun x => p x.Key) (fun k => if p k = true then f k else none) := by
  refine ⟨h.rise.sublist List.filter_sublist, fun x => ?_⟩
  rw [List.mem_filter, h.mem]
  by_cases e : p x.Key = true <;> simp [e]
/-- the robot's keys given back -/
def dropR (r : Int) (ks : List ByteArray) (l : List Hold) : List Hold := ks.foldl (fun l k => if (findH l k).isSome = true ∧ (match findH l k with | some h => h.Robot | none => 0) = r then holdL k 0 true l else l) l
def takeR (r : Int) (ks : List ByteArray) (l : List Hold) : List Hold := ks.foldl (fun l k => holdL k r false l) l
theorem mdel_nodup {κ ν : Type} [DecidableEq κ] {m : List (κ × ν)} {k : κ} (h : (m.map (·.1)).Nodup) : ((mdel k m).map (·.1)).Nodup := h.sublist ((mdel_sub k m).map _)
theorem dropR_spec {r : Int} : ∀ {ks : List ByteArray} {l : List Hold} {a : List (ByteArray × Int)}, HSpec l (fun k => mget k a) → (a.map (·.1)).Nodup → HSpec (dropR r ks l) (fun k => mget k (dropAll r ks a)) ∧ ((dropAll r ks a).map (·.1)).Nodup
  | [], l, a, h, hn => ⟨h, hn⟩
  | k :: ks, l, a, h, hn => by
    have hf := h.find k
    unfold dropR dropAll
    rw [List.foldl_cons, List.foldl_cons]
    have hc : ((findH l k).isSome = true ∧ (match findH l k with | some h => h.Robot | none => 0) = r) ↔ ((mget k a).isSome = true ∧ (mget k a).getD 0 = r) := by
      rw [hf]
      cases mget k a with
      | none => simp
      | some v => simp
    by_cases hq : (mget k a).isSome = true ∧ (mget k a).getD 0 = r
    · rw [if_pos hq, if_pos (hc.2 hq)]
      exact dropR_spec ((h.hold k 0 true).congr fun k' => by rw [mget_mdel k k' hn]; by_cases e : k' = k <;> simp [e]) (mdel_nodup hn)
    · rw [if_neg hq, if_neg fun h => hq (hc.1 h)]
      exact dropR_spec h hn
theorem takeR_spec {r : Int} : ∀ {ks : List ByteArray} {l : List Hold} {a : List (ByteArray × Int)}, HSpec l (fun k => mget k a) → (a.map (·.1)).Nodup → HSpec (takeR r ks l) (fun k => mget k (takeAll r ks a)) ∧ ((takeAll r ks a).map (·.1)).Nodup
  | [], l, a, h, hn => ⟨h, hn⟩
  | k :: ks, l, a, h, hn => by
    unfold takeR takeAll
    rw [List.foldl_cons, List.foldl_cons]
    exact takeR_spec ((h.hold k r false).congr fun k' => by rw [mget_mset k k']; by_cases e : k' = k <;> simp [e]) (mset_nodup hn)
theorem PSpec.get {l : List Rec} {g : K3 → Option Work} (h : PSpec l g) {i : Nat} (hi : i < l.length) : g l[i].Txn.k = some l[i].Work ∧ l[i] = recW l[i].Txn l[i].Work := by
  obtain ⟨w, h1, h2⟩ := (h.mem l[i]).1 (List.getElem_mem hi)
  have : w = l[i].Work := by rw [h2]; rfl
  subst this
  exact ⟨h1, h2⟩
theorem PSpec.none {l : List Rec} {g : K3 → Option Work} (h : PSpec l g) {x : Txn} (hx : ∀ q ∈ l, q.Txn ≠ x) : g x.k = none := by
  cases hg : g x.k with
  | none => rfl
  | some w => exact absurd rfl (hx (recW x w) ((h.mem _).2 ⟨w, hg, rfl⟩))
theorem PSpec.ins {l : List Rec} {g : K3 → Option Work} (h : PSpec l g) {x : Txn} {w : Work} {i : Nat} (hx : g x.k = Option.none) (hi : i ≤ l.length) (h1 : ∀ q ∈ l.take i, ltK q.Txn.k x.k) (h2 : ∀ hl : i < l.length, ¬ ltK l[i].Txn.k x.k) :
    PSpec (l.take i ++ recW x w :: l.drop i) (fun k => if k = x.k then some w else g k) := by
  have hr := h.rise
  rw [← List.take_append_drop i l, List.pairwise_append] at hr
  obtain ⟨r1, r2, r3⟩ := hr
  have hgt : ∀ q ∈ l.drop i, ltK x.k q.Txn.k := fun q hq => by
    have hne : ∀ q ∈ l, q.Txn.k ≠ x.k := fun q hq e => by
      obtain ⟨w', h3, _⟩ := (h.mem q).1 hq
      rw [e, hx] at h3; cases h3
    have hil : i < l.length := by
      refine Classical.byContradiction fun hc => ?_
      rw [List.drop_of_length_le (by omega)] at hq
      cases hq
    have h0 : ltK x.k l[i].Txn.k := Classical.byContradiction fun hc => hne _ (List.getElem_mem hil) (ltK_tot (h2 hil) hc)
    rw [List.drop_eq_getElem_cons hil] at hq r2
    rw [List.pairwise_cons] at r2
    rcases List.mem_cons.1 hq with rfl | hq
    · exact h0
    · exact ltK_trans h0 (r2.1 q hq)
  refine ⟨?_, fun q => ?_⟩
  · rw [List.pairwise_append, List.pairwise_cons]
    refine ⟨r1, ⟨hgt, r2⟩, fun a ha b hb => ?_⟩
    rcases List.mem_cons.1 hb with rfl | hb
    · exact h1 a ha
    · exact r3 a ha b hb
  · have hsp : q ∈ l ↔ q ∈ l.take i ∨ q ∈ l.drop i := by rw [← List.mem_append, List.take_append_drop]
    rw [List.mem_append, List.mem_cons]
    by_cases e : q.Txn.k = x.k
    · have e' := k_inj e
      have hno : q ∉ l := fun hq => by
        obtain ⟨w', h3, _⟩ := (h.mem q).1 hq
        rw [e, hx] at h3; cases h3
      simp only [e, if_true, Option.some.injEq]
      constructor
      · rintro (hq | rfl | hq)
        · exact absurd (hsp.2 (.inl hq)) hno
        · exact ⟨w, rfl, rfl⟩
        · exact absurd (hsp.2 (.inr hq)) hno
      · rintro ⟨w', rfl, hq⟩
        rw [e'] at hq
        exact .inr (.inl hq)
    · simp only [e, if_false]
      rw [← h.mem q, hsp]
      constructor
      · rintro (hq | rfl | hq)
        · exact .inl hq
        · exact absurd rfl e
        · exact .inr hq
      · rintro (hq | hq)
        · exact .inl hq
        · exact .inr (.inr hq)
theorem PSpec.era {l : List Rec} {g : K3 → Option Work} (h : PSpec l g) {x : Txn} {i : Nat} (hi : i < l.length) (hx : l[i].Txn = x) :
    PSpec (l.take i ++ l.drop (i + 1)) (fun k => if k = x.k then Option.none else g k) := by
  have hr := h.rise
  have hl : l = l.take i ++ l[i] :: l.drop (i + 1) := by rw [← List.drop_eq_getElem_cons hi, List.take_append_drop]
  rw [hl, List.pairwise_append, List.pairwise_cons] at hr
  obtain ⟨r1, ⟨r2, r4⟩, r3⟩ := hr
  refine ⟨?_, fun q => ?_⟩
  · rw [List.pairwise_append]
    exact ⟨r1, r4, fun a ha b hb => r3 a ha b (List.mem_cons_of_mem _ hb)⟩
  · have hsp : q ∈ l ↔ q ∈ l.take i ∨ q = l[i] ∨ q ∈ l.drop (i + 1) := by
      conv => lhs; rw [hl]
      rw [List.mem_append, List.mem_cons]
    rw [List.mem_append]
    by_cases e : q.Txn.k = x.k
    · simp only [e, if_true]
      constructor
      · rintro (hq | hq)
        · have := r3 q hq l[i] (List.mem_cons_self ..)
          rw [hx, e] at this
          exact absurd this ltK_irr
        · have := r2 q hq
          rw [hx, e] at this
          exact absurd this ltK_irr
      · rintro ⟨w, hw, _⟩; cases hw
    · simp only [e, if_false]
      rw [← h.mem q, hsp]
      constructor
      · rintro (hq | hq)
        · exact .inl hq
        · exact .inr (.inr hq)
      · rintro (hq | rfl | hq)
        · exact .inl hq
        · rw [hx] at e; exact absurd rfl e
        · exact .inr hq
/-- a key stands twice just if compacting makes it shorter -/
theorem dupT_iff {l : List ByteArray} : dupT l ↔ ¬ l.Nodup := by
  have tr : ∀ a b c : List UInt8, leB a b = true → leB b c = true → leB a c = true := fun a b c h1 h2 => by
    simp only [leB, decide_eq_true_eq] at *
    exact List.le_trans h1 h2
  have to : ∀ a b : List UInt8, (leB a b || leB b a) = true := fun a b => by
    simp only [leB, Bool.or_eq_true, decide_eq_true_eq]
    exact List.le_total a b
  have hs := List.pairwise_mergeSort tr to (l.map fun s => s.data.toList)
  have hp := List.mergeSort_perm (l.map fun s => s.data.toList) leB
  have hm : (sortT l).map (fun s => s.data.toList) = (l.map fun s => s.data.toList).mergeSort leB := by
    unfold sortT
    rw [List.map_map]
    exact (List.map_congr_left fun s _ => (by simp [sb] : ((fun s : ByteArray => s.data.toList) ∘ sb) s = s)).trans (List.map_id' _)
  unfold dupT compT
  rw [List.length_map, hm]
  have hnd : l.Nodup ↔ ((l.map fun s => s.data.toList).mergeSort leB).Nodup := by
    rw [hp.nodup_iff, List.nodup_iff_pairwise_ne, List.nodup_iff_pairwise_ne, List.pairwise_map]
    constructor
    · exact fun h => h.imp fun h e => h (text_ext e)
    · exact fun h => h.imp fun h e => h (by rw [e])
  have hlen : l.length = ((l.map fun s => s.data.toList).mergeSort leB).length := by rw [hp.length_eq, List.length_map]
  rw [hnd, hlen]
  generalize (l.map fun s => s.data.toList).mergeSort leB = z at *
  unfold Lib.compact Lib.compactUpTo
  rw [List.length_map]
  have hle := List.length_filter_le (Lib.keeps z.toArray) (List.range z.length)
  rw [List.length_range] at hle
  have hiff : ((List.range z.length).filter (Lib.keeps z.toArray)).length = z.length ↔ ∀ j < z.length, Lib.keeps z.toArray j = true := by
    constructor
    · intro h j hj
      have h2 := List.length_filter_eq_length_iff.1 (h.trans List.length_range.symm)
      exact h2 j (List.mem_range.2 hj)
    · intro h
      exact (List.length_filter_eq_length_iff.2 fun j hj => h j (List.mem_range.1 hj)).trans List.length_range
  have hkey : (∀ j < z.length, Lib.keeps z.toArray j = true) ↔ z.Nodup := by
    have hget : ∀ j (hj : j < z.length), z.toArray[j]! = z[j] := fun j hj => by rw [getElem!_pos z.toArray j (by simpa using hj)]; simp
    constructor
    · intro h
      rw [List.nodup_iff_pairwise_ne, List.pairwise_iff_getElem]
      intro i j hi hj hij e
      have hk := h j hj
      unfold Lib.keeps at hk
      rcases of_decide_eq_true hk with h0 | h0
      · omega
      · rw [hget j hj, hget (j - 1) (by omega)] at h0
        rw [List.pairwise_iff_getElem] at hs
        have h1 := hs (j - 1) j (by omega) hj (by omega)
        simp only [leB, decide_eq_true_eq] at h1
        have h2 : z[i] ≤ z[j - 1]'(by omega) := by
          rcases Nat.eq_or_lt_of_le (show i ≤ j - 1 by omega) with e2 | e2
          · subst e2; exact List.le_refl _
          · have := hs i (j - 1) hi (by omega) e2
            simpa only [leB, decide_eq_true_eq] using this
        rw [e] at h2
        exact h0 (List.le_antisymm h2 h1)
    · intro h j hj
      unfold Lib.keeps
      refine decide_eq_true ?_
      by_cases h0 : j = 0
      · exact .inl h0
      · right
        rw [hget j hj, hget (j - 1) (by omega)]
        intro e
        rw [List.nodup_iff_pairwise_ne, List.pairwise_iff_getElem] at h
        exact h (j - 1) j (by omega) hj (by omega) e.symm
  rw [← hkey, ← hiff]
  omega
end Go.Proofs.YtkhbfjkioehgfaaGreatDoor
