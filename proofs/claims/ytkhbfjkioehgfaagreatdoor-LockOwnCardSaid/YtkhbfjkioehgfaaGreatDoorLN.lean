/- The reference's lists in order, and what a table keeps. No program in sight. -/
import Derived.Test.YtkhbfjkioehgfaaGreatDoorLM
set_option linter.unusedVariables false
set_option linter.unusedSimpArgs false
namespace Go.Proofs.YtkhbfjkioehgfaaGreatDoor
open Go Go.Sx Go.Proofs
instance : LawfulBEq ByteArray where
  eq_of_beq h := by rw [ba_beq] at h; simpa using h
  rfl := fun {a} => by rw [ba_beq]; simp
/-- two lists in order that hold the same are the same -/
theorem rise_eq {α : Type} {lt : α → α → Prop} (irr : ∀ a, ¬ lt a a) (asy : ∀ a b, lt a b → ¬ lt b a) : ∀ {l l' : List α}, l.Pairwise lt → l'.Pairwise lt → (∀ a, a ∈ l ↔ a ∈ l') → l = l'
  | [], [], _, _, _ => rfl
  | [], b :: l', _, _, h => absurd ((h b).2 (by simp)) (by simp)
  | a :: l, [], _, _, h => absurd ((h a).1 (by simp)) (by simp)
  | a :: l, b :: l', h1, h2, h => by
    rw [List.pairwise_cons] at h1 h2
    have hab : a = b := by
      rcases List.mem_cons.1 ((h a).1 (by simp)) with e | e
      · exact e
      · rcases List.mem_cons.1 ((h b).2 (by simp)) with e' | e'
        · exact e'.symm
        · exact absurd (h1.1 b e') (asy _ _ (h2.1 a e))
    subst hab
    refine congrArg _ (rise_eq irr asy h1.2 h2.2 fun x => ?_)
    have hx := h x
    simp only [List.mem_cons] at hx
    constructor
    · intro hm
      rcases hx.1 (.inr hm) with e | e
      · subst e; exact absurd (h1.1 x hm) (irr x)
      · exact e
    · intro hm
      rcases hx.2 (.inr hm) with e | e
      · subst e; exact absurd (h2.1 x hm) (irr x)
      · exact e
/-- a list of held keys tells who holds -/
structure HSpec (l : List Hold) (f : ByteArray → Option Int) : Prop where
  rise : l.Pairwise fun a b => SLt a.Key b.Key
  mem : ∀ h, h ∈ l ↔ f h.Key = some h.Robot
theorem HSpec.uniq {l l' : List Hold} {f : ByteArray → Option Int} (h : HSpec l f) (h' : HSpec l' f) : l = l' :=
  rise_eq (lt := fun a b : Hold => SLt a.Key b.Key) (fun _ => slt_irr) (fun _ _ => slt_asymm) h.rise h'.rise fun a => by rw [h.mem, h'.mem]
theorem HSpec.congr {l : List Hold} {f g : ByteArray → Option Int} (h : HSpec l f) (e : ∀ k, f k = g k) : HSpec l g := by
  obtain rfl : f = g := funext e
  exact h
theorem HSpec.find {l : List Hold} {f : ByteArray → Option Int} (h : HSpec l f) (k : ByteArray) : findH l k = (f k).map (Hold.mk k) := by
  cases hf : f k with
  | none =>
    unfold findH
    simp only [List.find?_eq_none, Option.map_none, decide_eq_true_eq]
    rintro x hx rfl
    rw [h.mem, hf] at hx
    cases hx
  | some r =>
    have hm : (⟨k, r⟩ : Hold) ∈ l := (h.mem _).2 hf
    cases hq : findH l k with
    | none =>
      unfold findH at hq
      rw [List.find?_eq_none] at hq
      exact absurd (hq _ hm) (by simp)
    | some q =>
      have h1 := List.find?_some hq
      have h2 := List.mem_of_find?_eq_some hq
      simp only [decide_eq_true_eq] at h1
      rw [h.mem, h1, hf] at h2
      obtain ⟨qk, qr⟩ := q
      simp only at h1 h2
      cases h2
      subst h1
      rfl
theorem pair_map {α β : Type} {f : α → β} {R : β → β → Prop} {l : List α} (h : (l.map f).Pairwise R) : l.Pairwise fun a b => R (f a) (f b) := List.pairwise_map.1 h
theorem sortT_rise {xs : List ByteArray} (h : xs.Nodup) : (sortT xs).Pairwise SLt := by
  have tr : ∀ a b c : List UInt8, leB a b = true → leB b c = true → leB a c = true := fun a b c h1 h2 => by
    simp only [leB, decide_eq_true_eq] at *
    exact List.le_trans h1 h2
  have to : ∀ a b : List UInt8, (leB a b || leB b a) = true := fun a b => by
    simp only [leB, Bool.or_eq_true, decide_eq_true_eq]
    exact List.le_total a b
  have h1 := List.pairwise_mergeSort tr to (xs.map fun s => s.data.toList)
  have h2 : ((xs.map fun s => s.data.toList).mergeSort leB).Nodup := by
    refine (List.mergeSort_perm _ _).nodup_iff.2 ?_
    rw [List.nodup_iff_pairwise_ne, List.pairwise_map]
    exact (List.nodup_iff_pairwise_ne.1 h).imp fun h e => h (text_ext e)
  unfold sortT
  rw [List.pairwise_map]
  rw [List.nodup_iff_pairwise_ne] at h2
  refine (h1.and h2).imp fun {a b} ⟨e1, e2⟩ => ?_
  rw [slt_iff]
  simp only [leB, decide_eq_true_eq] at e1
  have e3 : (sb a).data.toList = a := by simp [sb]
  have e4 : (sb b).data.toList = b := by simp [sb]
  rw [e3, e4]
  by_cases h : a < b
  · exact h
  · exact absurd (List.le_antisymm e1 (List.not_lt.1 h)) e2
theorem mget_iff {κ ν : Type} [DecidableEq κ] {m : List (κ × ν)} (hn : (m.map (·.1)).Nodup) {k : κ} {v : ν} : mget k m = some v ↔ (k, v) ∈ m := ⟨mget_mem, mget_of_mem hn⟩
theorem mget_key {κ ν : Type} [DecidableEq κ] {m : List (κ × ν)} {k : κ} : k ∈ m.map (·.1) ↔ ∃ v, mget k m = some v := by
  have h := mget_none (k := k) (m := m)
  cases hm : mget k m with
  | none => exact ⟨fun h' => absurd h' (h.1 hm), fun ⟨v, e⟩ => (by cases e)⟩
  | some v => exact ⟨fun _ => ⟨v, rfl⟩, fun _ => Classical.byContradiction fun hc => by rw [h.2 hc] at hm; cases hm⟩
theorem holdsL_spec {s : TS} (hn : (s.held.map (·.1)).Nodup) : HSpec (holdsL s) (fun k => mget k s.held) := by
  refine ⟨?_, fun h => ?_⟩
  · unfold holdsL
    rw [List.pairwise_map]
    exact (sortT_rise hn).imp fun h => h
  · unfold holdsL
    rw [List.mem_map]
    constructor
    · rintro ⟨k, hk, rfl⟩
      obtain ⟨v, hv⟩ := mget_key.1 (mem_sortT.1 hk)
      simp only [holdOf, hv, Option.getD_some]
    · intro hg
      refine ⟨h.Key, mem_sortT.2 (mget_key.2 ⟨_, hg⟩), ?_⟩
      simp only [holdOf, hg, Option.getD_some]
/-- a list of records tells what is prepared -/
def recW (x : Txn) (w : Work) : Rec := ⟨2, x, w, false, []⟩
structure PSpec (l : List Rec) (g : K3 → Option Work) : Prop where
  rise : l.Pairwise fun a b => ltK a.Txn.k b.Txn.k
  mem : ∀ q, q ∈ l ↔ ∃ w, g q.Txn.k = some w ∧ q = recW q.Txn w
theorem ltK_irr {a : K3} : ¬ ltK a a := by unfold ltK; omega
theorem ltK_asy {a b : K3} (h : ltK a b) : ¬ ltK b a := by unfold ltK at *; omega
theorem ltK_trans {a b c : K3} (h : ltK a b) (h' : ltK b c) : ltK a c := by unfold ltK at *; omega
theorem k_inj {x y : Txn} (h : x.k = y.k) : x = y := by
  have := congrArg toTx h
  rwa [toTx_k, toTx_k] at this
theorem PSpec.uniq {l l' : List Rec} {g : K3 → Option Work} (h : PSpec l g) (h' : PSpec l' g) : l = l' :=
  rise_eq (lt := fun a b : Rec => ltK a.Txn.k b.Txn.k) (fun _ => ltK_irr) (fun _ _ => ltK_asy) h.rise h'.rise fun a => by rw [h.mem, h'.mem]
theorem PSpec.congr {l : List Rec} {f g : K3 → Option Work} (h : PSpec l f) (e : ∀ k, f k = g k) : PSpec l g := by
  obtain rfl : f = g := funext e
  exact h
theorem sort3_rise {xs : List K3} (h : xs.Nodup) : (sort3 xs).Pairwise ltK := by
  have tr : ∀ a b c : K3, (!(ltOf ordI) b a) = true → (!(ltOf ordI) c b) = true → (!(ltOf ordI) c a) = true := fun a b c h1 h2 => by
    simp only [Bool.not_eq_true', ← Bool.not_eq_true, ltOf_iff] at *
    unfold ltK at *
    omega
  have to : ∀ a b : K3, ((!(ltOf ordI) b a) || (!(ltOf ordI) a b)) = true := fun a b => by
    simp only [Bool.or_eq_true, Bool.not_eq_true', ← Bool.not_eq_true, ltOf_iff]
    unfold ltK
    omega
  have h1 := List.pairwise_mergeSort tr to xs
  have h2 : (xs.mergeSort fun x y => !(ltOf ordI) y x).Nodup := (List.mergeSort_perm _ _).nodup_iff.2 h
  rw [List.nodup_iff_pairwise_ne] at h2
  unfold sort3
  refine (h1.and h2).imp fun {a b} ⟨e1, e2⟩ => ?_
  simp only [Bool.not_eq_true', ← Bool.not_eq_true, ltOf_iff] at e1
  refine Classical.byContradiction fun h3 => e2 (ltK_tot h3 e1)
def gW (s : TS) (k : K3) : Option Work := (mget k s.works).map (·.2)
theorem prepL_spec {s : TS} (hn : (s.works.map (·.1)).Nodup) : PSpec (prepL s) (gW s) := by
  refine ⟨?_, fun q => ?_⟩
  · unfold prepL
    rw [List.pairwise_map]
    exact (sort3_rise hn).imp fun h => h
  · unfold prepL gW
    rw [List.mem_map]
    constructor
    · rintro ⟨k, hk, rfl⟩
      obtain ⟨v, hv⟩ := mget_key.1 (mem_sort3.1 hk)
      refine ⟨v.2, ?_, ?_⟩
      · show (mget (toTx k).k s.works).map _ = _
        rw [k_toTx, hv]; rfl
      · simp only [recOf, recW, hv, Option.getD_some]
    · rintro ⟨w, hg, hq⟩
      cases hm : mget q.Txn.k s.works with
      | none => rw [hm] at hg; cases hg
      | some v =>
        rw [hm] at hg
        cases hg
        refine ⟨q.Txn.k, mem_sort3.2 (mget_key.2 ⟨_, hm⟩), ?_⟩
        rw [hq]
        simp only [recOf, recW, hm, Option.getD_some, toTx_k]
end Go.Proofs.YtkhbfjkioehgfaaGreatDoor
