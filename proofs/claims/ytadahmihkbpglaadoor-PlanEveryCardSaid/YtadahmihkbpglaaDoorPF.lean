/- The table's rows while they are filled. No program in sight. -/
import Derived.Test.YtadahmihkbpglaaDoorPE
set_option linter.unusedVariables false
set_option linter.unusedSimpArgs false
namespace Go.Proofs.YtadahmihkbpglaaDoor
open Go Go.Sx Go.Proofs
/-- a row of the table, filled up to cell c -/
def rowP (m : Map) (tk : List ByteArray) (goal : Int) (k : Nat) (t : Int) (n c : Nat) : List RestV := (List.range n).map fun x => if x < c then toV (planT m tk goal k t x) else zRV
section
variable {m : Map} {tk : List ByteArray} {goal t : Int} {k n c : Nat}
theorem rowP_len : (rowP m tk goal k t n c).length = n := by simp [rowP]
theorem rowP_get {x : Nat} (hx : x < n) : (rowP m tk goal k t n c)[x]'(by rw [rowP_len]; exact hx) = if x < c then toV (planT m tk goal k t x) else zRV := by simp [rowP]
theorem rowP_zero : rowP m tk goal k t n 0 = List.replicate n zRV := by
  apply List.ext_getElem <;> simp [rowP]
theorem rowP_succ (hc : c < n) : rowP m tk goal k t n (c + 1) = (rowP m tk goal k t n c).set c (toV (planT m tk goal k t c)) := by
  apply List.ext_getElem
  · simp [rowP_len]
  · intro x h1 h2
    rw [rowP_len] at h1
    rw [rowP_get h1, List.getElem_set]
    by_cases e : c = x
    · subst e; rw [if_pos (by omega), if_pos rfl]
    · rw [if_neg e, rowP_get h1]
      by_cases h3 : x < c
      · rw [if_pos h3, if_pos (by omega)]
      · rw [if_neg h3, if_neg (by omega)]
/-- a cell that stays as it was made -/
theorem rowP_skip (hc : c < n) (h : planT m tk goal k t c = none) : rowP m tk goal k t n (c + 1) = rowP m tk goal k t n c := by
  rw [rowP_succ hc, h]
  apply List.ext_getElem
  · simp
  · intro x h1 h2
    rw [List.getElem_set]
    by_cases e : c = x
    · subst e
      rw [if_pos rfl, rowP_get hc, if_neg (by omega)]; rfl
    · rw [if_neg e]
theorem rowP_self (hc : c < n) : (rowP m tk goal k t n c).set c zRV = rowP m tk goal k t n c := by
  apply List.ext_getElem
  · simp
  · intro x h1 h2
    rw [List.getElem_set]
    by_cases e : c = x
    · subst e
      rw [if_pos rfl, rowP_get hc, if_neg (by omega)]
    · rw [if_neg e]
theorem rowP_fits (hs : sidesM m) (hg : isC m goal) (h0 : 0 ≤ t) (hb : t + k + 1 ≤ 2000000000) (hk : k ≤ 24) : ∀ x ∈ rowP m tk goal k t n c, fitV x := by
  intro x hx
  obtain ⟨y, _, rfl⟩ := List.mem_map.1 hx
  split
  · exact toV_fit hs hg h0 hb hk
  · exact fitV_z
end
/-- what is tried for a step: as the program makes it -/
def xV (pk : Bool) (goal t c to : Int) (y : RestV) : RestV := ⟨y.ok && (decide (to = c) || pk), if c = goal ∧ y.comes = t + 1 then t else y.comes, y.far, if to = c then y.passes else y.passes + 1, to⟩
theorem xV_cand {m : Map} {tk : List ByteArray} {goal t c to : Int} {k : Nat} {cur : Option PRest} :
    (if betV (xV (pkM tk t c to) goal t c to (toV (planT m tk goal k (t + 1) to))) (toV cur) then xV (pkM tk t c to) goal t c to (toV (planT m tk goal k (t + 1) to)) else toV cur) = toV (pickB cur (candP (pkM tk) goal (fun d => planT m tk goal k (t + 1) d) t c to)) := by
  rw [pick_V]
  cases h : planT m tk goal k (t + 1) to with
  | none =>
    have e1 : ¬ betV (xV (pkM tk t c to) goal t c to (toV none)) (toV cur) := by simp [betV, xV, toV]
    have e2 : candP (pkM tk) goal (fun d => planT m tk goal k (t + 1) d) t c to = none := by simp [candP, h]
    rw [if_neg e1, e2, if_neg (by simp [betV, toV])]
  | some y =>
    by_cases hp : to = c ∨ pkM tk t c to = true
    · have e2 : candP (pkM tk) goal (fun d => planT m tk goal k (t + 1) d) t c to = some (relax goal t c to y) := by simp only [candP, h]; rw [if_pos hp]
      have e1 : xV (pkM tk t c to) goal t c to (toV (some y)) = toV (some (relax goal t c to y)) := by
        simp only [xV, toV, relax, RestV.mk.injEq]
        refine ⟨?_, rfl, trivial, ?_, trivial⟩
        · rcases hp with hp | hp <;> simp [hp]
        · split <;> omega
      rw [e1, e2]
    · have e2 : candP (pkM tk) goal (fun d => planT m tk goal k (t + 1) d) t c to = none := by simp only [candP, h]; rw [if_neg hp]
      have e3 : ¬ betV (xV (pkM tk t c to) goal t c to (toV (some y))) (toV cur) := by
        have h1 : ¬ to = c := fun e => hp (.inl e)
        have h2 : pkM tk t c to = false := by cases hq : pkM tk t c to with | false => rfl | true => exact absurd (.inr hq) hp
        simp [betV, xV, h1, h2]
      rw [if_neg e3, e2, if_neg (by simp [betV, toV])]
/-- a cell's entry, from those of the tick behind it -/
theorem planT_succ {m : Map} {tk : List ByteArray} {goal t c : Int} {k : Nat} : planT m tk goal (k + 1) t c = if avM m tk t c = true then bestOf (candP (pkM tk) goal (fun d => planT m tk goal k (t + 1) d) t c) (nextR m c) else none := rfl
theorem planT_zero {m : Map} {tk : List ByteArray} {goal t c : Int} : planT m tk goal 0 t c = if avM m tk t c = true then some ⟨if c = goal then t else bigT, distM m goal c, 0, 0⟩ else none := rfl
theorem planP_succ {m : Map} {tk : List ByteArray} {goal t c : Int} {k : Nat} : planP m tk goal (k + 1) t c = c :: planP m tk goal k (t + 1) (toV (planT m tk goal (k + 1) t c)).next := by
  have : nextO (tabP (nextR m) (avM m tk) (pkM tk) goal (distM m goal) (k + 1) t c) = (toV (planT m tk goal (k + 1) t c)).next := by
    unfold planT
    cases tabP (nextR m) (avM m tk) (pkM tk) goal (distM m goal) (k + 1) t c <;> rfl
  unfold planP
  rw [← this]; rfl
end Go.Proofs.YtadahmihkbpglaaDoor
