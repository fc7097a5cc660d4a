/- slices.Sorted(maps.Keys(m)): the kit's contract, taken to owned parts. No program in sight. -/
import Derived.Test.YtjafnombaehcaaaE29
import Derived.Sort.KeysCollected
set_option linter.unusedVariables false
set_option linter.unusedSimpArgs false
namespace Go.Sx
open Go Go.Sort Go.RowKit Go.Maps
open Go.WideElems (Fit rd rg rg_of)
open Go.Proofs (encStr)
section
variable {ν : Type} {RV : Rd ν} {ag : Bool} {H : Heap}
def anyR : Value → Option (DataW Unit × List MemPlace) := fun _ => some (.lit (.bool true), [])
theorem el_keys : ∀ {es : List MapEntry} {m : List (ByteArray × ν)}, EL Value.string RV ag H es m → es.map (·.key) = m.map fun p => Value.string p.1
  | [], [], _ => rfl
  | e :: es, (k, v) :: m, ⟨a, _, d⟩ => by simp [a, el_keys d]
  | [], _ :: _, h => h.elim
  | _ :: _, [], h => h.elim
theorem rd_str {P : Program} {k : TypeId} (hk : P.underlying k = some .string) {s : ByteArray} (hs : s.size ≤ maxLen) {x : MapEntry} (hx : x.key = .string s) : rd P k anyR x = some (.string s.data.toList, .lit (.bool true)) := by
  have h1 : keyOf P k x.key = some (.string s.data.toList) := by
    simp only [keyOf, hk, mapKey, hx]
    rw [if_pos hs]
  simp [rd, h1, anyR]
theorem rgs_str {P : Program} {k : TypeId} (hk : P.underlying k = some .string) : ∀ {es : List MapEntry} {m : List (ByteArray × ν)}, EL Value.string RV ag H es m → (∀ p ∈ m, p.1.size ≤ maxLen) → es.map (rg P k anyR) = m.map fun p => (Lit.string p.1.data.toList, DataW.lit (.bool true))
  | [], [], _, _ => rfl
  | e :: es, (k', v) :: m, ⟨a, _, d⟩, h => by
    have h1 := rd_str (P := P) hk (h (k', v) (by simp)) a
    simp only [List.map_cons]
    rw [rgs_str hk d fun p hp => h p (by simp [hp]), rg_of h1]
  | [], _ :: _, h, _ => h.elim
  | _ :: _, [], h, _ => h.elim
/-- an owned map, as the kit's contracts have it -/
theorem owns_of {P : Program} {k : TypeId} (hk : P.underlying k = some .string) {es : Array MapEntry} {clock : Nat} {m : List (ByteArray × ν)} (hm : MapOk Value.string RV ag H es clock m) (hs : ∀ p ∈ m, p.1.size ≤ maxLen) (hl : m.length ≤ maxLen) {w : World} {b : Nat} (hb : w.heap[b]? = some (.map es clock)) :
    ∃ D : DataW Unit, w.ownsMap P k anyR b m.length D ∧ (strKeys D).Perm (m.map fun p => p.1.data.toList) ∧ Maps.size D = m.length := by
  have hlen : es.toList.length = m.length := hm.el.len
  have hsz : es.size = m.length := by simpa using hlen
  have hrg := rgs_str (P := P) hk hm.el hs
  refine ⟨.map ((es.toList.map (rg P k anyR)).foldr DataW.insert []), ⟨es, clock, hb, ⟨by omega, ?_, ?_⟩, by omega, rfl⟩, ?_, ?_⟩
  · refine ⟨hm.lt, ?_, ?_⟩
    · exact hm.rise.imp fun h => Nat.ne_of_lt h
    · rw [el_keys hm.el]
      have hn := hm.nodup
      rw [List.nodup_iff_pairwise_ne, List.pairwise_map] at hn ⊢
      exact hn.imp fun h e => h (by simpa using e)
  · intro x hx
    have hkx : x.key ∈ es.toList.map (·.key) := List.mem_map.2 ⟨x, hx, rfl⟩
    rw [el_keys hm.el] at hkx
    obtain ⟨p, hp, e⟩ := List.mem_map.1 hkx
    exact ⟨_, rd_str hk (hs p hp) e.symm⟩
  · have hp := Go.WideShapes.sorted_perm (es.toList.map (rg P k anyR))
    show (((es.toList.map (rg P k anyR)).foldr DataW.insert []).map fun p => strOf p.1).Perm _
    refine (hp.map _).trans ?_
    rw [hrg, List.map_map]
    exact List.Perm.of_eq (List.map_congr_left fun p _ => rfl)
  · have hp := Go.WideShapes.sorted_perm (es.toList.map (rg P k anyR))
    rw [Maps.size_eq, hp.length_eq, List.length_map, hlen]
end
/-- a new row among what is owned -/
theorem St.newRow {W0 w w' : World} {H : Heap} {L : List HProp} {T n : Nat} {v : Value} {xs : List Value} (hS : St W0 H w L) (hb : Below w.heap.size w w') (hr : w'.ownsRow w.heap.size T 1 v n xs) : St W0 H w' (Go.Sx.own T 1 v n xs :: L) := by
  have hS' := hS.below hb
  obtain ⟨hx, h⟩ := hr
  rcases h with ⟨rfl, rfl⟩ | ⟨g, cap, cur, rfl, hg, hcell, h1, h2, h3, h4⟩
  · have : xs = [] := List.eq_nil_of_length_eq_zero (by simpa using hx)
    subst this
    exact hS'.sub own_nil
  · obtain ⟨h, a, l, d⟩ := hS.own
    have hnew : hp w g = none := by simp only [hp]; exact Array.getElem?_eq_none hg
    let hA : Heap := fun b => if b = g then some (.cells cur T (0, 0)) else none
    have hAw : hA.le (hp w') := fun b o e => by
      simp only [hA] at e
      split at e
      · next e1 => subst e1; cases e; exact hcell
      · cases e
    have dis : ∀ (x : Heap), x.le (hp w) → Disj hA x := fun x hx b => by
      by_cases e : b = g
      · subst e
        right
        cases hxb : x b with
        | none => rfl
        | some o => have := hx b o hxb; rw [hnew] at this; cases this
      · left; simp [hA, e]
    have keep : ∀ (x : Heap), x.le (hp w) → x.le (hp w') := fun x hx b o e => by
      have h1 := hx b o e
      have hlt := hp_lt h1
      simp only [hp] at h1 ⊢
      rw [hb.block b hlt]; exact h1
    refine St.of_parts hS'.env hS'.ro (hA := hA) ?_ a (dis h l) (dis H hS.ro).symm d hAw (keep h l)
    by_cases h0 : cap = 0
    · subst h0
      have hn0 : n = 0 := by omega
      subst hn0
      have hc0 : cur.size = 0 := by simpa using h3
      refine ⟨hx, .inl ⟨rfl, ?_⟩⟩
      exact ⟨_, rfl⟩
    · have hsplit : cur.toList = xs ++ cur.toList.drop (n * 1) := by rw [← h4, List.take_append_drop]
      refine ⟨hx, .inr ⟨g, cap, cur.toList.drop (n * 1), rfl, by omega, h1, h2, ?_, ?_⟩⟩
      · rw [← hsplit]; simpa using h3
      · rw [← hsplit]; simp [hA]
/-- texts, sorted -/
def sortT (xs : List ByteArray) : List ByteArray := ((xs.map fun s => s.data.toList).mergeSort leB).map sb
/-- .. at a program that has the kit's contract -/
theorem ct_sortedKeys {ν : Type} {RV : Rd ν} {ag : Bool} {P : Program} {f it : FuncId} {k Tm : TypeId} {W0 : World} {H H0 : Heap} {p b : Nat} {ms : List (ByteArray × ν)} (hk : P.underlying k = some .string)
    (hcon : ∀ (w : World) (nn : Nat) (D0 : DataW Unit) (R : Value → Option (DataW Unit × List MemPlace)), w.ownsMap P k R b nn D0 → p < w.heap.size → w.cell? ⟨p, 0, none⟩ = some (.map (some b)) → Maps.size D0 ≤ maxLen → Maps.size D0 * 16 ≤ 140737488355328 →
      Calls P f #[.func (.func it) #[] #[.pointer (some ⟨p, 0, none⟩)]] w fun e w' => ∃ (v : Value) (ss : List (List UInt8)), e = .returned v ∧ ss.Perm (strKeys D0) ∧ w'.ownsRow w.heap.size k 1 v ss.length ((ss.mergeSort leB).map encStr) ∧ (v = .slice none 0 0 ↔ ss = []) ∧ Below w.heap.size w w')
    (hs : ∀ q ∈ ms, q.1.size ≤ cap47) (hl : ms.length * 16 ≤ cap47) :
    Ct P f #[.func (.func it) #[] #[.pointer (some ⟨p, 0, none⟩)]] W0 H [row p Tm [.map (some b)], mapO Value.string RV ag H0 b ms] (fun r H' B => B = [ownS rStr 1 16 k H r (sortT (ms.map (·.1))), mapO Value.string RV ag H0 b ms] ∧ H' = H) := by
  intro w R hS
  have hcap : cap47 ≤ maxLen := by decide
  obtain ⟨hA, hR, a, r, d, dA, dR, lA, lR⟩ := hS.parts
  obtain ⟨hB, hR2, ⟨es, clock, hm, hpt⟩, r2, d2, l2, l3⟩ := r
  have hcellp : w.cell? ⟨p, 0, none⟩ = some (.map (some b)) := by
    have h1 : w.heap[p]? = some (.cells #[.map (some b)] Tm (0, 0)) := lA _ _ a
    simp [World.cell?, h1]
  have hplt : p < w.heap.size := by
    have h1 : hp w p = some (.cells #[.map (some b)] Tm (0, 0)) := lA _ _ a
    exact hp_lt h1
  have hbm : w.heap[b]? = some (.map es clock) := lR _ _ (l2 _ _ hpt)
  have hlm : ms.length ≤ maxLen := by have := hl; simp only [cap47] at this hcap; omega
  obtain ⟨D, hown, hperm, hsize⟩ := owns_of (P := P) hk hm (fun q hq => Nat.le_trans (hs q hq) hcap) hlm hbm
  refine (hcon w ms.length D anyR hown hplt hcellp (by rw [hsize]; exact hlm) (by rw [hsize]; exact hl)).mono ?_
  rintro e w' ⟨v, ss, rfl, hss, hrow, _, hbl⟩
  have hS2 : St W0 H w (mapO Value.string RV ag H0 b ms :: R) := hS.sub (Sub.drop (Sub.refl _))
  have hS3 := hS2.newRow hbl hrow
  have hsort : ss.mergeSort leB = (ms.map fun q => q.1.data.toList).mergeSort leB := mergeSort_of_perm (hss.trans hperm)
  refine ⟨v, H, [ownS rStr 1 16 k H v (sortT (ms.map (·.1))), mapO Value.string RV ag H0 b ms], rfl, .refl _, ⟨rfl, rfl⟩, ?_⟩
  refine hS3.sub ?_
  have hlen : ss.length = (sortT (ms.map (·.1))).length := by
    simp only [sortT, List.length_map, List.length_mergeSort]
    have := (hss.trans hperm).length_eq
    simpa using this
  have hcs : (ss.mergeSort leB).map encStr = (sortT (ms.map (·.1))).map Value.string := by
    rw [hsort]
    simp only [sortT, List.map_map]
    rfl
  rw [hlen, hcs]
  refine ownS_mk ?_ ?_
  · refine RL.mk1 (R := rStr) (val := fun x => .string x) (ok := fun x => x.size ≤ cap47) fun x hx => ?_
    obtain ⟨l, hl1, rfl⟩ := List.mem_map.1 hx
    rw [List.mem_mergeSort] at hl1
    simp only [List.map_map] at hl1
    obtain ⟨q, hq, rfl⟩ := List.mem_map.1 hl1
    exact hs q hq
  · rw [← hlen]
    have := (hss.trans hperm).length_eq
    rw [List.length_map] at this
    rw [this]; exact hl
/-- maps.Keys: a function over one new block that holds the map -/
theorem ct_keys {P : Program} {f it : FuncId} {Tm : TypeId} {W0 : World} {H : Heap} {b : Nat}
    (hcon : ∀ (mb : Option Nat) (W : World), Calls P f #[.map mb] W fun e w' => e = .returned (.func (.func it) #[] #[.pointer (some ⟨W.heap.size, 0, none⟩)]) ∧ w' = W.alloc (.cells #[.map mb] Tm)) :
    Ct P f #[.map (some b)] W0 H [] (fun r H' B => ∃ p, r = .func (.func it) #[] #[.pointer (some ⟨p, 0, none⟩)] ∧ B = [row p Tm [.map (some b)]] ∧ H' = H) := by
  intro w R hS
  refine (hcon (some b) w).mono ?_
  rintro e w' ⟨rfl, rfl⟩
  refine ⟨_, H, [row w.heap.size Tm [.map (some b)]], rfl, .refl _, ⟨w.heap.size, rfl, rfl, rfl⟩, ?_⟩
  exact hS.alloc (w' := w.alloc (.cells #[.map (some b)] Tm)) (hS.env.of rfl rfl rfl) rfl
end Go.Sx
