/- All: a dealer and its hands. -/
import Derived.Test.YtafhinjggdknjaaDoorPNB
import Derived.Test.YtafhinjggdknjaaDoorPZN
set_option linter.unusedVariables false
set_option linter.unusedSimpArgs false
namespace Go.Sx
def busy (wk : List (Option Nat)) : List Nat := wk.filterMap id
theorem busy_back : ∀ {wk : List (Option Nat)} {k j : Nat}, wk[k]? = some (some j) → (busy wk).Perm (j :: busy (wk.set k none))
  | [], k, j, h => by simp at h
  | o :: wk, 0, j, h => by
    simp only [List.getElem?_cons_zero, Option.some.injEq] at h
    subst h
    simp [busy]
  | o :: wk, k + 1, j, h => by
    have := busy_back (wk := wk) (k := k) (j := j) (by simpa using h)
    cases o with
    | none => simpa [busy] using this
    | some x =>
      have h2 : (x :: busy wk).Perm (x :: j :: busy (wk.set k none)) := this.cons x
      simpa [busy] using h2.trans (List.Perm.swap _ _ _)
theorem set_same {wk : List (Option Nat)} {k : Nat} (h : wk[k]? = some none) : wk.set k none = wk := by
  apply List.ext_getElem?
  intro i
  rw [List.getElem?_set]
  split
  · rename_i e; subst e
    obtain ⟨hlt, _⟩ := List.getElem?_eq_some_iff.1 h
    rw [h]; simp [hlt]
  · rfl
theorem busy_deal {wk : List (Option Nat)} {k x : Nat} (h : wk[k]? = some none) : (busy (wk.set k (some x))).Perm (x :: busy wk) := by
  obtain ⟨hlt, _⟩ := List.getElem?_eq_some_iff.1 h
  have := busy_back (wk := wk.set k (some x)) (k := k) (j := x) (by simp [hlt])
  rwa [List.set_set, set_same h] at this
theorem busy_some {wk : List (Option Nat)} {j : Nat} (h : j ∈ busy wk) : ∃ k : Nat, wk[k]? = some (some j) := by
  obtain ⟨o, ho, e⟩ := List.mem_filterMap.1 h
  obtain ⟨k, hk, hk2⟩ := List.getElem_of_mem ho
  refine ⟨k, ?_⟩
  rw [List.getElem?_eq_getElem hk, hk2]
  simp only [id] at e; rw [e]
theorem busy_none {wk : List (Option Nat)} (h : busy wk = []) {k : Nat} {o : Option Nat} (ho : wk[k]? = some o) : o = none := by
  cases o with
  | none => rfl
  | some j =>
    have : j ∈ busy wk := List.mem_filterMap.2 ⟨some j, List.mem_of_getElem? ho, rfl⟩
    rw [h] at this; cases this
theorem busy_replicate (n : Nat) : busy (List.replicate n none) = [] := by
  induction n with
  | zero => rfl
  | succ n ih => rw [List.replicate_succ]; exact ih
structure Deals (wk : List (Option Nat)) (nx back lim : Nat) (done : Nat → Prop) : Prop where
  le : nx ≤ lim
  cnt : (busy wk).length + back = nx
  lt : ∀ j ∈ busy wk, j < nx
  nd : (busy wk).Nodup
  done : ∀ j, j < nx → j ∉ busy wk → done j
theorem Deals.start {n lim : Nat} {d : Nat → Prop} : Deals (List.replicate n none) 0 0 lim d := ⟨Nat.zero_le _, by rw [busy_replicate]; rfl, fun j h => (by rw [busy_replicate] at h; cases h), by rw [busy_replicate]; exact List.nodup_nil, fun j h => by omega⟩
theorem Deals.deal {wk : List (Option Nat)} {nx back lim k : Nat} {d : Nat → Prop} (h : Deals wk nx back lim d) (hk : wk[k]? = some none) (hl : nx < lim) : Deals (wk.set k (some nx)) (nx + 1) back lim d := by
  have hp := busy_deal (x := nx) hk
  refine ⟨hl, ?_, fun j hj => ?_, ?_, fun j hj hn => ?_⟩
  · have := hp.length_eq
    have := h.cnt
    simp only [List.length_cons] at *
    omega
  · rcases List.mem_cons.1 (hp.mem_iff.1 hj) with rfl | hj'
    · omega
    · have := h.lt j hj'; omega
  · refine hp.symm.nodup (List.nodup_cons.2 ⟨fun hm => ?_, h.nd⟩)
    have := h.lt _ hm; omega
  · have hn' : j ∉ nx :: busy wk := fun hm => hn (hp.mem_iff.2 hm)
    simp only [List.mem_cons, not_or] at hn'
    exact h.done j (by omega) hn'.2
theorem Deals.back {wk : List (Option Nat)} {nx back lim k j : Nat} {d d' : Nat → Prop} (h : Deals wk nx back lim d) (hk : wk[k]? = some (some j)) (hd : d' j) (hdd : ∀ i, i ≠ j → d i → d' i) : Deals (wk.set k none) nx (back + 1) lim d' := by
  have hp := busy_back hk
  have hnd := hp.nodup h.nd
  rw [List.nodup_cons] at hnd
  refine ⟨h.le, ?_, fun i hi => h.lt i (hp.mem_iff.2 (List.mem_cons_of_mem _ hi)), hnd.2, fun i hi hn => ?_⟩
  · have := hp.length_eq
    have := h.cnt
    simp only [List.length_cons] at *
    omega
  · by_cases e : i = j
    · subst e; exact hd
    · refine hdd i e (h.done i hi fun hm => ?_)
      rcases List.mem_cons.1 (hp.mem_iff.1 hm) with rfl | hm'
      · exact e rfl
      · exact hn hm'
theorem Deals.job {wk : List (Option Nat)} {nx back lim k j : Nat} {d : Nat → Prop} (h : Deals wk nx back lim d) (hk : wk[k]? = some (some j)) : j < nx := h.lt j ((busy_back hk).mem_iff.2 (List.mem_cons_self ..))
theorem Deals.hope {wk : List (Option Nat)} {nx back lim : Nat} {d : Nat → Prop} (h : Deals wk nx back lim d) (hb : back < nx) : ∃ k j : Nat, wk[k]? = some (some j) := by
  have hc := h.cnt
  obtain ⟨j, hj⟩ : ∃ j, j ∈ busy wk := by
    cases hh : busy wk with
    | nil => rw [hh] at hc; simp at hc; omega
    | cons j r => exact ⟨j, List.mem_cons_self ..⟩
  obtain ⟨k, hk⟩ := busy_some hj
  exact ⟨k, j, hk⟩
theorem Deals.fin {wk : List (Option Nat)} {nx back lim : Nat} {d : Nat → Prop} (h : Deals wk nx back lim d) (hb : lim ≤ back) : nx = lim ∧ busy wk = [] ∧ ∀ j, j < lim → d j := by
  have h1 := h.cnt
  have h2 := h.le
  have h3 : busy wk = [] := List.eq_nil_of_length_eq_zero (by omega)
  exact ⟨by omega, h3, fun j hj => h.done j (by omega) (by rw [h3]; simp)⟩
end Go.Sx
namespace Go.Proofs.YtafhinjggdknjaaDoor
open Go Go.Sx Go.X Go.Proofs Go.Conc
open Go.ConcR (KK wgBlock WgAt stA smA rd wr mk)
theorem ownS_rle {α : Type} {R : Rd α} {sz w T : Nat} {H H' : Heap} {s : Value} {xs : List α} {L : List HProp} (hR : ∀ c x, R H c x → R H' c x) : Sub (ownS R sz w T H s xs :: L) (ownS R sz w T H' s xs :: L) :=
  fun h ⟨h1, h2, ⟨cs, ⟨a, b⟩, c⟩, r⟩ => ⟨h1, h2, ⟨cs, ⟨rl_rle hR a, b⟩, c⟩, r⟩
theorem rRoute_rle {H H' : Heap} (h : Rle H H') {c : List Value} {x : Route} (hs : rRoute H c x) : rRoute H' c x := by
  obtain ⟨s, e, f1, hs⟩ := hs
  exact ⟨s, e, f1, slb_rle h (fun c x hx => hx) hs⟩
theorem sub_made {α : Type} {R : Rd α} {sz wd T b m : Nat} [hR : RdOk R sz] {H : Heap} {c : List Value} {z0 : α} {L : List HProp} (hz : R H c z0) (hb : m * wd ≤ cap47) (hm : m ≤ cap47) :
    Sub (row b T (List.replicate m c).flatten :: L) (ownS R sz wd T H (.slice (some ⟨b, 0, none⟩) m m) (List.replicate m z0) :: L) := by
  have hsz : c.length = sz := hR.len hz
  have hlen : (List.replicate m c).flatten.length = m * sz := by simp [List.length_flatten, hsz]
  have hs := own_shut (T := T) (sz := sz) (m := m) (b := b) (cap := m) (xs := (List.replicate m c).flatten) (sp := []) (R := L) hlen (Nat.le_refl _) (by simp only [cap47] at hm; omega) (by simpa using hlen)
  rw [List.append_nil] at hs
  refine hs.trans ?_
  have hm2 := ownS_mk (sz := sz) (T := T) (w := wd) (s := .slice (some ⟨b, 0, none⟩) m m) (L := L) (RL.rep hz m) (by simpa using hb)
  rw [List.length_replicate] at hm2
  exact hm2
def DoneJ (m : Map) (js : List Job) (rts : List Route) (cds : List Int) (j : Nat) : Prop := ∃ job, js[j]? = some job ∧ rts[j]? = some (planRt m job) ∧ cds[j]? = some (planC m job)
theorem done_set {m : Map} {js : List Job} {rts : List Route} {cds : List Int} {j : Nat} {job : Job} (h : js[j]? = some job) (h1 : j < rts.length) (h2 : j < cds.length) : DoneJ m js (rts.set j (planRt m job)) (cds.set j (planC m job)) j := ⟨job, h, by simp [h1], by simp [h2]⟩
theorem done_ne {m : Map} {js : List Job} {rts : List Route} {cds : List Int} {i j : Nat} {r : Route} {c : Int} (hne : i ≠ j) (h : DoneJ m js rts cds i) : DoneJ m js (rts.set j r) (cds.set j c) i := by
  obtain ⟨job, a, b, d⟩ := h
  exact ⟨job, a, by rw [List.getElem?_set_ne (Ne.symm hne)]; exact b, by rw [List.getElem?_set_ne (Ne.symm hne)]; exact d⟩
theorem fits_lookV {m : Map} {j : Job} : fits (lookV m j) := by
  unfold lookV
  split
  · unfold fits; omega
  · split
    · unfold fits; omega
    · split <;> (unfold fits; omega)
theorem fits_planC {m : Map} {j : Job} : fits (planC m j) := by
  unfold planC
  split
  · exact fits_lookV
  · split <;> (unfold fits; omega)
theorem fits_start {m : Map} {j : Job} (h : fits j.Tick) : fits (planRt m j).Start := by
  unfold planRt
  split
  · exact h
  · exact fits0
theorem done_all {m : Map} {js : List Job} {rts : List Route} {cds : List Int} (h1 : rts.length = js.length) (h2 : cds.length = js.length) (h : ∀ j, j < js.length → DoneJ m js rts cds j) : rts = js.map (planRt m) ∧ cds = js.map (planC m) := by
  constructor
  · apply List.ext_getElem?
    intro i
    by_cases hi : i < js.length
    · obtain ⟨job, a, b, _⟩ := h i hi
      rw [b, List.getElem?_map, a]; rfl
    · rw [List.getElem?_eq_none (by omega), List.getElem?_eq_none (by simp; omega)]
  · apply List.ext_getElem?
    intro i
    by_cases hi : i < js.length
    · obtain ⟨job, a, _, b⟩ := h i hi
      rw [b, List.getElem?_map, a]; rfl
    · rw [List.getElem?_eq_none (by omega), List.getElem?_eq_none (by simp; omega)]
abbrev coAt (wb dl dn : Nat) (base : Heap) (m : Map) (js : List Job) (nx : Nat) (wk : List (Option Nat)) : Co := ⟨⟨64, wb, dl, dn, base, js.length, okF m js⟩, nx, wk, .run, false⟩
instance : TZL Tryd.prog 53 [.chan none] := ⟨_, Tryd.zeroValue53, rfl⟩
instance : TZL Tryd.prog 54 [.chan none] := ⟨_, Tryd.zeroValue54, rfl⟩
instance {c : Option Nat} : CellsI (.chan c) [.chan c] := ⟨rfl⟩
set_option maxRecDepth 100000 in
set_option maxHeartbeats 16000000 in
theorem all_spec {W0 : GW} {H : Heap} {g v : Value} {m : Map} {js : List Job} {hands : Int} (hs : W0.s = .solo) (hT : TabH Tryd.prog H) (hG : rG W0 H g m) (hv : SlR rJob 5 H v js) (hl0 : ∀ j ∈ js, j.Taken.length ≤ 100) (hlen : js.length ≤ 100) (hf : fits hands) :
    Ct Tryd.prog 8 #[g, v, I hands] W0 H [] (fun r H' B => ∃ s1 s2, r = .tuple #[s1, s2] ∧ B = [ownS rRoute 2 32 41 H' s1 (js.map (planRt m)), ownS rInt 1 8 28 H' s2 (js.map (planC m))]) := by
  refine Ct.go (vs := [g, v, I hands]) fun R => ?_
  obtain ⟨b0, c0, rfl, _, _⟩ := hv.shape
  have hG0 := hG
  obtain ⟨⟨bg, _, _, _, rfl, _⟩, _, _⟩ := hG0
  refine walk ?_
  refine ops_box rfl rfl fun gb _ => ?_
  refine ops_box rfl rfl fun jb _ => ?_
  refine walk ?_
  refine ex_scope ?_
  refine ex_seq ?_
  refine ex_cutk (σ := Nat × Nat) (fun _ => True) (fun s => [(8, .slice (some ⟨s.1, 0, none⟩) js.length js.length), (9, .slice (some ⟨s.2, 0, none⟩) js.length js.length), (2, I hands), (3, .pointer (some ⟨gb, 0, none⟩)), (4, .pointer (some ⟨jb, 0, none⟩))]) (fun _ => H)
    (fun s => ownS rRoute 2 32 41 H (.slice (some ⟨s.1, 0, none⟩) js.length js.length) (List.replicate js.length zRoute) :: ownS rInt 1 8 28 H (.slice (some ⟨s.2, 0, none⟩) js.length js.length) (List.replicate js.length 0) :: row jb 25 [.slice b0 js.length c0] :: row gb 27 [.pointer (some ⟨bg, 0, none⟩)] :: R) (fun K1 hK1 => ?_) fun ⟨br, bc⟩ _ => ?_
  · have cc : ∀ br bc L, Sub (row br 41 (List.replicate js.length [I 0, nilS]).flatten :: row bc 28 (List.replicate js.length [I 0]).flatten :: L) (ownS rRoute 2 32 41 H (.slice (some ⟨br, 0, none⟩) js.length js.length) (List.replicate js.length zRoute) :: ownS rInt 1 8 28 H (.slice (some ⟨bc, 0, none⟩) js.length js.length) (List.replicate js.length 0) :: L) := fun br bc L =>
      (sub_made (R := rRoute) zRoute_reads (by simp only [cap47]; omega) (by simp only [cap47]; omega)).trans (.cons (sub_made (R := rInt) ⟨rfl, fits0⟩ (by simp only [cap47]; omega) (by simp only [cap47]; omega)))
    refine ex_any 7 [row jb 25 [.slice b0 js.length c0]] ?_
    refine stepY 0 ?_; refine stepY 1 ?_; refine stepY 3 ?_; refine stepY 4 ?_
    refine any_w2 2 5 rfl rfl (op_mkN (m := js.length) (cs := (List.replicate js.length [I 0, nilS]).flatten) rfl rfl made_len (by omega) (by omega) fun br _ => ⟨.refl _, subA, ?_⟩) (op_mkN (m := js.length) (cs := (List.replicate js.length [I 0]).flatten) rfl rfl made_len (by omega) (by omega) fun bc _ => ⟨.refl _, subA, ?_⟩)
    · refine stepY 6 ?_
      refine any_w 5 rfl (op_mkN (m := js.length) (cs := (List.replicate js.length [I 0]).flatten) rfl rfl made_len (by omega) (by omega) fun bc _ => ⟨.refl _, subA, ?_⟩)
      refine any_rest rfl ?_
      refine walk ?_
      refine out_to hK1 (br, bc) trivial (hs := Sub.trans (B := row br 41 (List.replicate js.length [I 0, nilS]).flatten :: row bc 28 (List.replicate js.length [I 0]).flatten :: row jb 25 [.slice b0 js.length c0] :: row gb 27 [.pointer (some ⟨bg, 0, none⟩)] :: R) subA (cc br bc _))
    · refine any_w 2 rfl (op_mkN (m := js.length) (cs := (List.replicate js.length [I 0, nilS]).flatten) rfl rfl made_len (by omega) (by omega) fun br _ => ⟨.refl _, subA, ?_⟩)
      refine stepY 6 ?_
      refine any_rest rfl ?_
      refine walk ?_
      refine out_to hK1 (br, bc) trivial (hs := Sub.trans (B := row br 41 (List.replicate js.length [I 0, nilS]).flatten :: row bc 28 (List.replicate js.length [I 0]).flatten :: row jb 25 [.slice b0 js.length c0] :: row gb 27 [.pointer (some ⟨bg, 0, none⟩)] :: R) subA (cc br bc _))
  · dsimp only
    refine ex_seq ?_
    refine ex_cutk (σ := Nat × Nat × Nat × Nat) (fun _ => True) (fun s => [(8, .slice (some ⟨br, 0, none⟩) js.length js.length), (9, .slice (some ⟨bc, 0, none⟩) js.length js.length), (2, I hands), (3, .pointer (some ⟨gb, 0, none⟩)), (4, .pointer (some ⟨jb, 0, none⟩)), (10, .pointer (some ⟨s.2.2.1, 0, none⟩)), (11, .pointer (some ⟨s.2.2.2, 0, none⟩))]) (fun _ => H)
      (fun s => pt s.1 (.chan 0 #[] false 0 0 false) :: pt s.2.1 (.chan 0 #[] false 0 0 false) :: row s.2.2.1 53 [.chan (some s.1)] :: row s.2.2.2 54 [.chan (some s.2.1)] :: ownS rRoute 2 32 41 H (.slice (some ⟨br, 0, none⟩) js.length js.length) (List.replicate js.length zRoute) :: ownS rInt 1 8 28 H (.slice (some ⟨bc, 0, none⟩) js.length js.length) (List.replicate js.length 0) :: row jb 25 [.slice b0 js.length c0] :: row gb 27 [.pointer (some ⟨bg, 0, none⟩)] :: R) (fun K2 hK2 => ?_) fun ⟨dl, dn, db, nb⟩ _ => ?_
    · refine ex_any 5 [] ?_
      refine any_4 0 1 2 3 (at_w 0 rfl (op_makeChan rfl fun dl => ⟨.refl _, subA, ?_⟩)) (at_w 1 rfl (op_makeChan rfl fun dn => ⟨.refl _, subA, ?_⟩)) (at_w 2 rfl (op_alloc fun db _ => ⟨.refl _, subA, ?_⟩)) (at_w 3 rfl (op_alloc fun nb _ => ⟨.refl _, subA, ?_⟩))
      · refine any_3 1 2 3 (at_w 1 rfl (op_makeChan rfl fun dn => ⟨.refl _, subA, ?_⟩)) (at_w 2 rfl (op_alloc fun db _ => ⟨.refl _, subA, ?_⟩)) (at_w 3 rfl (op_alloc fun nb _ => ⟨.refl _, subA, ?_⟩))
        · refine any_2 2 3 (at_w 2 rfl (op_alloc fun db _ => ⟨.refl _, subA, ?_⟩)) (at_w 3 rfl (op_alloc fun nb _ => ⟨.refl _, subA, ?_⟩))
          · refine any_w 3 rfl (op_alloc fun nb _ => ⟨.refl _, subA, ?_⟩)
            refine any_sta 4 rfl rfl rfl rfl (by simp) rfl ⟨subA, ?_⟩
            refine any_rest rfl ?_
            refine walk ?_
            exact out_to hK2 (dl, dn, db, nb) trivial
          · refine any_w 2 rfl (op_alloc fun db _ => ⟨.refl _, subA, ?_⟩)
            refine any_sta 4 rfl rfl rfl rfl (by simp) rfl ⟨subA, ?_⟩
            refine any_rest rfl ?_
            refine walk ?_
            exact out_to hK2 (dl, dn, db, nb) trivial
        · refine any_2 1 3 (at_w 1 rfl (op_makeChan rfl fun dn => ⟨.refl _, subA, ?_⟩)) (at_w 3 rfl (op_alloc fun nb _ => ⟨.refl _, subA, ?_⟩))
          · refine any_w 3 rfl (op_alloc fun nb _ => ⟨.refl _, subA, ?_⟩)
            refine any_sta 4 rfl rfl rfl rfl (by simp) rfl ⟨subA, ?_⟩
            refine any_rest rfl ?_
            refine walk ?_
            exact out_to hK2 (dl, dn, db, nb) trivial
          · refine any_2 1 4 (at_w 1 rfl (op_makeChan rfl fun dn => ⟨.refl _, subA, ?_⟩)) (at_s 4 rfl rfl rfl rfl (by simp) rfl ⟨subA, ?_⟩)
            · refine any_sta 4 rfl rfl rfl rfl (by simp) rfl ⟨subA, ?_⟩
              refine any_rest rfl ?_
              refine walk ?_
              exact out_to hK2 (dl, dn, db, nb) trivial
            · refine any_w 1 rfl (op_makeChan rfl fun dn => ⟨.refl _, subA, ?_⟩)
              refine any_rest rfl ?_
              refine walk ?_
              exact out_to hK2 (dl, dn, db, nb) trivial
        · refine any_2 1 2 (at_w 1 rfl (op_makeChan rfl fun dn => ⟨.refl _, subA, ?_⟩)) (at_w 2 rfl (op_alloc fun db _ => ⟨.refl _, subA, ?_⟩))
          · refine any_w 2 rfl (op_alloc fun db _ => ⟨.refl _, subA, ?_⟩)
            refine any_sta 4 rfl rfl rfl rfl (by simp) rfl ⟨subA, ?_⟩
            refine any_rest rfl ?_
            refine walk ?_
            exact out_to hK2 (dl, dn, db, nb) trivial
          · refine any_2 1 4 (at_w 1 rfl (op_makeChan rfl fun dn => ⟨.refl _, subA, ?_⟩)) (at_s 4 rfl rfl rfl rfl (by simp) rfl ⟨subA, ?_⟩)
            · refine any_sta 4 rfl rfl rfl rfl (by simp) rfl ⟨subA, ?_⟩
              refine any_rest rfl ?_
              refine walk ?_
              exact out_to hK2 (dl, dn, db, nb) trivial
            · refine any_w 1 rfl (op_makeChan rfl fun dn => ⟨.refl _, subA, ?_⟩)
              refine any_rest rfl ?_
              refine walk ?_
              exact out_to hK2 (dl, dn, db, nb) trivial
      · refine any_3 0 2 3 (at_w 0 rfl (op_makeChan rfl fun dl => ⟨.refl _, subA, ?_⟩)) (at_w 2 rfl (op_alloc fun db _ => ⟨.refl _, subA, ?_⟩)) (at_w 3 rfl (op_alloc fun nb _ => ⟨.refl _, subA, ?_⟩))
        · refine any_2 2 3 (at_w 2 rfl (op_alloc fun db _ => ⟨.refl _, subA, ?_⟩)) (at_w 3 rfl (op_alloc fun nb _ => ⟨.refl _, subA, ?_⟩))
          · refine any_w 3 rfl (op_alloc fun nb _ => ⟨.refl _, subA, ?_⟩)
            refine any_sta 4 rfl rfl rfl rfl (by simp) rfl ⟨subA, ?_⟩
            refine any_rest rfl ?_
            refine walk ?_
            exact out_to hK2 (dl, dn, db, nb) trivial
          · refine any_w 2 rfl (op_alloc fun db _ => ⟨.refl _, subA, ?_⟩)
            refine any_sta 4 rfl rfl rfl rfl (by simp) rfl ⟨subA, ?_⟩
            refine any_rest rfl ?_
            refine walk ?_
            exact out_to hK2 (dl, dn, db, nb) trivial
        · refine any_2 0 3 (at_w 0 rfl (op_makeChan rfl fun dl => ⟨.refl _, subA, ?_⟩)) (at_w 3 rfl (op_alloc fun nb _ => ⟨.refl _, subA, ?_⟩))
          · refine any_w 3 rfl (op_alloc fun nb _ => ⟨.refl _, subA, ?_⟩)
            refine any_sta 4 rfl rfl rfl rfl (by simp) rfl ⟨subA, ?_⟩
            refine any_rest rfl ?_
            refine walk ?_
            exact out_to hK2 (dl, dn, db, nb) trivial
          · refine any_w 0 rfl (op_makeChan rfl fun dl => ⟨.refl _, subA, ?_⟩)
            refine any_sta 4 rfl rfl rfl rfl (by simp) rfl ⟨subA, ?_⟩
            refine any_rest rfl ?_
            refine walk ?_
            exact out_to hK2 (dl, dn, db, nb) trivial
        · refine any_2 0 2 (at_w 0 rfl (op_makeChan rfl fun dl => ⟨.refl _, subA, ?_⟩)) (at_w 2 rfl (op_alloc fun db _ => ⟨.refl _, subA, ?_⟩))
          · refine any_w 2 rfl (op_alloc fun db _ => ⟨.refl _, subA, ?_⟩)
            refine any_sta 4 rfl rfl rfl rfl (by simp) rfl ⟨subA, ?_⟩
            refine any_rest rfl ?_
            refine walk ?_
            exact out_to hK2 (dl, dn, db, nb) trivial
          · refine any_w 0 rfl (op_makeChan rfl fun dl => ⟨.refl _, subA, ?_⟩)
            refine any_sta 4 rfl rfl rfl rfl (by simp) rfl ⟨subA, ?_⟩
            refine any_rest rfl ?_
            refine walk ?_
            exact out_to hK2 (dl, dn, db, nb) trivial
      · refine any_3 0 1 3 (at_w 0 rfl (op_makeChan rfl fun dl => ⟨.refl _, subA, ?_⟩)) (at_w 1 rfl (op_makeChan rfl fun dn => ⟨.refl _, subA, ?_⟩)) (at_w 3 rfl (op_alloc fun nb _ => ⟨.refl _, subA, ?_⟩))
        · refine any_2 1 3 (at_w 1 rfl (op_makeChan rfl fun dn => ⟨.refl _, subA, ?_⟩)) (at_w 3 rfl (op_alloc fun nb _ => ⟨.refl _, subA, ?_⟩))
          · refine any_w 3 rfl (op_alloc fun nb _ => ⟨.refl _, subA, ?_⟩)
            refine any_sta 4 rfl rfl rfl rfl (by simp) rfl ⟨subA, ?_⟩
            refine any_rest rfl ?_
            refine walk ?_
            exact out_to hK2 (dl, dn, db, nb) trivial
          · refine any_2 1 4 (at_w 1 rfl (op_makeChan rfl fun dn => ⟨.refl _, subA, ?_⟩)) (at_s 4 rfl rfl rfl rfl (by simp) rfl ⟨subA, ?_⟩)
            · refine any_sta 4 rfl rfl rfl rfl (by simp) rfl ⟨subA, ?_⟩
              refine any_rest rfl ?_
              refine walk ?_
              exact out_to hK2 (dl, dn, db, nb) trivial
            · refine any_w 1 rfl (op_makeChan rfl fun dn => ⟨.refl _, subA, ?_⟩)
              refine any_rest rfl ?_
              refine walk ?_
              exact out_to hK2 (dl, dn, db, nb) trivial
        · refine any_2 0 3 (at_w 0 rfl (op_makeChan rfl fun dl => ⟨.refl _, subA, ?_⟩)) (at_w 3 rfl (op_alloc fun nb _ => ⟨.refl _, subA, ?_⟩))
          · refine any_w 3 rfl (op_alloc fun nb _ => ⟨.refl _, subA, ?_⟩)
            refine any_sta 4 rfl rfl rfl rfl (by simp) rfl ⟨subA, ?_⟩
            refine any_rest rfl ?_
            refine walk ?_
            exact out_to hK2 (dl, dn, db, nb) trivial
          · refine any_w 0 rfl (op_makeChan rfl fun dl => ⟨.refl _, subA, ?_⟩)
            refine any_sta 4 rfl rfl rfl rfl (by simp) rfl ⟨subA, ?_⟩
            refine any_rest rfl ?_
            refine walk ?_
            exact out_to hK2 (dl, dn, db, nb) trivial
        · refine any_2 0 1 (at_w 0 rfl (op_makeChan rfl fun dl => ⟨.refl _, subA, ?_⟩)) (at_w 1 rfl (op_makeChan rfl fun dn => ⟨.refl _, subA, ?_⟩))
          · refine any_2 1 4 (at_w 1 rfl (op_makeChan rfl fun dn => ⟨.refl _, subA, ?_⟩)) (at_s 4 rfl rfl rfl rfl (by simp) rfl ⟨subA, ?_⟩)
            · refine any_sta 4 rfl rfl rfl rfl (by simp) rfl ⟨subA, ?_⟩
              refine any_rest rfl ?_
              refine walk ?_
              exact out_to hK2 (dl, dn, db, nb) trivial
            · refine any_w 1 rfl (op_makeChan rfl fun dn => ⟨.refl _, subA, ?_⟩)
              refine any_rest rfl ?_
              refine walk ?_
              exact out_to hK2 (dl, dn, db, nb) trivial
          · refine any_w 0 rfl (op_makeChan rfl fun dl => ⟨.refl _, subA, ?_⟩)
            refine any_sta 4 rfl rfl rfl rfl (by simp) rfl ⟨subA, ?_⟩
            refine any_rest rfl ?_
            refine walk ?_
            exact out_to hK2 (dl, dn, db, nb) trivial
      · refine any_3 0 1 2 (at_w 0 rfl (op_makeChan rfl fun dl => ⟨.refl _, subA, ?_⟩)) (at_w 1 rfl (op_makeChan rfl fun dn => ⟨.refl _, subA, ?_⟩)) (at_w 2 rfl (op_alloc fun db _ => ⟨.refl _, subA, ?_⟩))
        · refine any_2 1 2 (at_w 1 rfl (op_makeChan rfl fun dn => ⟨.refl _, subA, ?_⟩)) (at_w 2 rfl (op_alloc fun db _ => ⟨.refl _, subA, ?_⟩))
          · refine any_w 2 rfl (op_alloc fun db _ => ⟨.refl _, subA, ?_⟩)
            refine any_sta 4 rfl rfl rfl rfl (by simp) rfl ⟨subA, ?_⟩
            refine any_rest rfl ?_
            refine walk ?_
            exact out_to hK2 (dl, dn, db, nb) trivial
          · refine any_2 1 4 (at_w 1 rfl (op_makeChan rfl fun dn => ⟨.refl _, subA, ?_⟩)) (at_s 4 rfl rfl rfl rfl (by simp) rfl ⟨subA, ?_⟩)
            · refine any_sta 4 rfl rfl rfl rfl (by simp) rfl ⟨subA, ?_⟩
              refine any_rest rfl ?_
              refine walk ?_
              exact out_to hK2 (dl, dn, db, nb) trivial
            · refine any_w 1 rfl (op_makeChan rfl fun dn => ⟨.refl _, subA, ?_⟩)
              refine any_rest rfl ?_
              refine walk ?_
              exact out_to hK2 (dl, dn, db, nb) trivial
        · refine any_2 0 2 (at_w 0 rfl (op_makeChan rfl fun dl => ⟨.refl _, subA, ?_⟩)) (at_w 2 rfl (op_alloc fun db _ => ⟨.refl _, subA, ?_⟩))
          · refine any_w 2 rfl (op_alloc fun db _ => ⟨.refl _, subA, ?_⟩)
            refine any_sta 4 rfl rfl rfl rfl (by simp) rfl ⟨subA, ?_⟩
            refine any_rest rfl ?_
            refine walk ?_
            exact out_to hK2 (dl, dn, db, nb) trivial
          · refine any_w 0 rfl (op_makeChan rfl fun dl => ⟨.refl _, subA, ?_⟩)
            refine any_sta 4 rfl rfl rfl rfl (by simp) rfl ⟨subA, ?_⟩
            refine any_rest rfl ?_
            refine walk ?_
            exact out_to hK2 (dl, dn, db, nb) trivial
        · refine any_2 0 1 (at_w 0 rfl (op_makeChan rfl fun dl => ⟨.refl _, subA, ?_⟩)) (at_w 1 rfl (op_makeChan rfl fun dn => ⟨.refl _, subA, ?_⟩))
          · refine any_2 1 4 (at_w 1 rfl (op_makeChan rfl fun dn => ⟨.refl _, subA, ?_⟩)) (at_s 4 rfl rfl rfl rfl (by simp) rfl ⟨subA, ?_⟩)
            · refine any_sta 4 rfl rfl rfl rfl (by simp) rfl ⟨subA, ?_⟩
              refine any_rest rfl ?_
              refine walk ?_
              exact out_to hK2 (dl, dn, db, nb) trivial
            · refine any_w 1 rfl (op_makeChan rfl fun dn => ⟨.refl _, subA, ?_⟩)
              refine any_rest rfl ?_
              refine walk ?_
              exact out_to hK2 (dl, dn, db, nb) trivial
          · refine any_w 0 rfl (op_makeChan rfl fun dl => ⟨.refl _, subA, ?_⟩)
            refine any_sta 4 rfl rfl rfl rfl (by simp) rfl ⟨subA, ?_⟩
            refine any_rest rfl ?_
            refine walk ?_
            exact out_to hK2 (dl, dn, db, nb) trivial
    · dsimp only
      refine walk ?_
      refine ops_alloc rfl fun wb _ => ?_
      refine ops_nil (out_seq ?_)
      refine ex_frzR (b := gb) (.there (.there (.there (.there (.there (.there (.there (.there .here)))))))) fun H1 hl1 q1 => ?_
      refine ex_frzR (b := jb) (.there (.there (.there (.there (.there (.there (.there .here))))))) fun H2 hl2 q2 => ?_
      refine ex_frzR (b := nb) (.there (.there (.there (.there .here)))) fun H3 hl3 q3 => ?_
      refine ex_frzR (b := db) (.there (.there (.there .here))) fun H4 hl4 q4 => ?_
      have hl : H.le H4 := hl1.trans (hl2.trans (hl3.trans hl4))
      replace q1 := q1.mono (hl2.trans (hl3.trans hl4))
      replace q2 := q2.mono (hl3.trans hl4)
      replace q3 := q3.mono hl4
      replace hT := hT.mono hl
      replace hG := hG.mono hl
      replace hv := hv.mono hl
      refine ex_opn (cty := 64) (dl := dl) (dn := dn) (wg := wb) (lim := js.length) (ok := okF m js) hs (.there .here) (.there .here) .here fun hbn a1 a2 a3 hne => ?_
      refine walk ?_
      obtain ⟨hn, hhn, hn1, hn2⟩ : ∃ hn : Nat, min (max hands 1) 16 = hn ∧ 1 ≤ hn ∧ hn ≤ 16 := ⟨(min (max hands 1) 16).toNat, by omega, by omega, by omega⟩
      rw [hhn]
      refine ex_loopG (fun i : Nat => i ≤ hn) (fun i => setS W0 (.co (coAt wb dl dn H4 m js 0 (List.replicate i none)))) (fun i => [(28, .int .i64 i), (27, .int .i64 hn), (12, .pointer (some ⟨wb, 0, none⟩)), (8, .slice (some ⟨br, 0, none⟩) js.length js.length), (9, .slice (some ⟨bc, 0, none⟩) js.length js.length), (3, .pointer (some ⟨gb, 0, none⟩)), (4, .pointer (some ⟨jb, 0, none⟩)), (10, .pointer (some ⟨db, 0, none⟩)), (11, .pointer (some ⟨nb, 0, none⟩))]) (fun _ => fz H4)
        (fun _ => ownS rRoute 2 32 41 H (.slice (some ⟨br, 0, none⟩) js.length js.length) (List.replicate js.length zRoute) :: ownS rInt 1 8 28 H (.slice (some ⟨bc, 0, none⟩) js.length js.length) (List.replicate js.length 0) :: R) (fun i => hn - i) 0 (Nat.zero_le _) fun i hi K3 hK3 => ?_
      by_cases hlt : i < hn
      · refine walk ?_
        refine ops_g (opG_call (vs := [_, _]) (A := []) rfl (wgAdd_spec (c := coAt wb dl dn H4 m js 0 (List.replicate i none)) rfl rfl rfl (by simp only [List.length_replicate]; omega)) .nil fun r W1 H' B hh => ?_)
        obtain ⟨eH, eB, rfl, rfl⟩ := hh
        subst eH eB
        refine walk ?_
        refine ops_g0 (opG_go (c := { coAt wb dl dn H4 m js 0 (List.replicate i none) with st := .pend }) rfl (by simp only [List.length_replicate]; omega) rfl rfl rfl (kid_all (q := ⟨⟨64, wb, dl, dn, H4, js.length, okF m js⟩, none, false, 0⟩) (Ws := W0) rfl rfl rfl rfl rfl hT hG hs hv hl0 q1 q2 q4 q3) ?_)
        refine walk ?_
        refine out_nextG hK3 (i + 1) hlt (hw := ?_)
        show setS W0 _ = setS W0 _
        rw [List.replicate_succ']
      · obtain rfl : i = hn := by omega
        clear hK3
        refine walk ?_
        refine ex_label (out_seq ?_)
        have hR := rle_fz H4
        have hRH : Rle H (fz H4) := (Rle.of_le hl).trans hR
        have r2 := hrow_rle hR q2
        have r3 := hrow_rle hR q3
        have r4 := hrow_rle hR q4
        refine ex_L (L' := ownS rRoute 2 32 41 (fz H4) (.slice (some ⟨br, 0, none⟩) js.length js.length) (List.replicate js.length zRoute) :: ownS rInt 1 8 28 (fz H4) (.slice (some ⟨bc, 0, none⟩) js.length js.length) (List.replicate js.length 0) :: R) ((ownS_rle fun _ _ h => rRoute_rle hRH h).trans (.cons (ownS_rle fun _ _ h => h))) ?_
        refine walk ?_
        refine ex_loopG (σ := Nat × Nat × List (Option Nat) × List Route × List Int × Heap) (fun s => Deals s.2.2.1 s.1 s.2.1 js.length (DoneJ m js s.2.2.2.1 s.2.2.2.2.1) ∧ s.2.2.1.length = i ∧ s.2.2.2.1.length = js.length ∧ s.2.2.2.2.1.length = js.length ∧ (fz H4).le s.2.2.2.2.2)
          (fun s => setS W0 (.co (coAt wb dl dn H4 m js s.1 s.2.2.1))) (fun s => [(13, .int .i64 s.1), (14, .int .i64 s.2.1), (12, .pointer (some ⟨wb, 0, none⟩)), (8, .slice (some ⟨br, 0, none⟩) js.length js.length), (9, .slice (some ⟨bc, 0, none⟩) js.length js.length), (4, .pointer (some ⟨jb, 0, none⟩)), (10, .pointer (some ⟨db, 0, none⟩)), (11, .pointer (some ⟨nb, 0, none⟩))]) (fun s => s.2.2.2.2.2)
          (fun s => ownS rRoute 2 32 41 s.2.2.2.2.2 (.slice (some ⟨br, 0, none⟩) js.length js.length) s.2.2.2.1 :: ownS rInt 1 8 28 s.2.2.2.2.2 (.slice (some ⟨bc, 0, none⟩) js.length js.length) s.2.2.2.2.1 :: R) (fun s => 2 * js.length - s.1 - s.2.1) (0, 0, List.replicate i none, List.replicate js.length zRoute, List.replicate js.length 0, fz H4)
          ⟨.start, by simp, by simp, by simp, .refl _⟩ fun ⟨nx, bk, wk, rts, cds, Hc⟩ ⟨i1, i2, i3, i4, i5⟩ K4 hK4 => ?_
        simp only at i1 i2 i3 i4 i5
        dsimp only
        replace r2 := r2.mono i5
        replace r3 := r3.mono i5
        replace r4 := r4.mono i5
        have hle := i1.le
        have hft : ∀ job ∈ js, fits job.Tick := fun job hj => hv.all (p := fun j => fits j.Tick) (fun H c x ⟨_, _, _, h, _⟩ => h) job hj
        have hcnt := i1.cnt
        by_cases hb : bk < js.length
        · by_cases hnx : nx < js.length
          · refine walk ?_
            refine ops_g (opG_deal (c := coAt wb dl dn H4 m js nx wk) (live := true) (z1 := .int .i64 0) (z2 := .agg #[.int .i64 0, .int .i64 0, .slice none 0 0, .int .i64 0]) rfl rfl rfl ⟨fun _ => hnx, fun _ => rfl⟩ (by show wk ≠ []; intro e; rw [e] at i2; simp at i2; omega) rfl rfl rfl (fun j v D h => h.elim fun _ h => h.elim fun _ h => h.2.2.2) (fun k _ hk => ?_) (fun k j v D hk hok => ?_))
            · refine walk ?_
              exact out_nextG hK4 (nx + 1, bk, wk.set k (some nx), rts, cds, Hc) ⟨i1.deal hk hnx, by simpa using i2, i3, i4, i5⟩ (by simp only; omega)
            obtain ⟨job, vr, e1, rfl, e3, e4⟩ := hok
            refine ⟨[ownS rInt 1 8 3 Heap.empty vr (planRt m job).Cells], e3, ?_⟩
            refine ops_L (sub_flat Heap.empty Hc) ?_
            refine ops_freeze vr fun H5 hl5 hs5 => ?_
            obtain ⟨bv, cv, rfl, _, _⟩ := hs5.1.shape
            have hjn := i1.job hk
            have hj : j < js.length := by omega
            refine ops_L (L' := ownS rRoute 2 32 41 H5 (.slice (some ⟨br, 0, none⟩) js.length js.length) rts :: ownS rInt 1 8 28 H5 (.slice (some ⟨bc, 0, none⟩) js.length js.length) cds :: R) ((ownS_rle fun _ _ h => rRoute_rle (Rle.of_le hl5) h).trans (.cons (ownS_rle fun _ _ h => h))) ?_
            refine walk ?_
            refine ops_alloc rfl fun p16 _ => ?_
            refine walk ?_
            refine ex_rowS (.slice (some ⟨br, 0, none⟩) js.length js.length) (by omega) fun b cap cs sp e h1 h2 h3 h4 hr hsm => ?_
            rw [i3] at e
            cases e
            refine ex_any 12 [row p16 67 [.int .i64 j, I (planRt m job).Start, .slice bv (planRt m job).Cells.length cv, I (planC m job)]] ?_
            refine stepY 0 ?_; refine stepY 1 ?_; refine stepY 2 ?_; refine stepY 3 ?_; refine stepY 4 ?_; refine stepY 5 ?_; refine stepY 6 ?_; refine stepY 7 ?_; refine stepY 8 ?_; refine stepY 9 ?_
            refine gny_ixB 10 rfl rfl rfl (j := j) (by omega) ?_
            rw [show 0 + ((j : Nat) : Int).toNat * 2 = j * 2 by omega]
            refine any_sta 11 rfl rfl rfl rfl (by simp at h4 ⊢; omega) rfl ⟨subA, ?_⟩
            refine any_rest rfl ?_
            have hset := hr.set (j := j) (us := [I (planRt m job).Start, .slice bv (planRt m job).Cells.length cv]) (y := planRt m job) ⟨_, rfl, fits_start (hft job (List.mem_of_getElem? e1)), hs5⟩ (by omega)
            have hlr : (rts.set j (planRt m job)).length = js.length := by simpa using i3
            refine ops_L (L' := ownS rRoute 2 32 41 H5 (.slice (some ⟨br, 0, none⟩) js.length js.length) (rts.set j (planRt m job)) :: row p16 67 [.int .i64 j, I (planRt m job).Start, .slice bv (planRt m job).Cells.length cv, I (planC m job)] :: ownS rInt 1 8 28 H5 (.slice (some ⟨bc, 0, none⟩) js.length js.length) cds :: R) ?_ ?_
            · have hm2 := ownS_mk (sz := 2) (T := 41) (w := 32) (s := .slice (some ⟨br, 0, none⟩) js.length js.length) (L := row p16 67 [.int .i64 j, I (planRt m job).Start, .slice bv (planRt m job).Cells.length cv, I (planC m job)] :: ownS rInt 1 8 28 H5 (.slice (some ⟨bc, 0, none⟩) js.length js.length) cds :: R) hset (by rw [hlr]; rw [i3] at hsm; exact hsm)
              rw [hlr] at hm2
              rw [i3] at h1 h3
              exact (own_set h3 h1 h2 h4 (by simp; omega)).trans hm2
            refine ops_stS rfl rfl rfl (R := rInt) (y' := planC m job) ⟨rfl, fits_planC⟩ (by omega) ?_
            refine walk ?_
            refine out_nextG hK4 (nx, bk + 1, wk.set k none, rts.set j (planRt m job), cds.set j (planC m job), H5) ⟨i1.back hk (done_set e1 (by omega) (by omega)) (fun i hne h => done_ne hne h), by simpa using i2, hlr, by simpa using i4, i5.trans hl5⟩ (by simp only; omega)
          · refine walk ?_
            have hn2 : nx = js.length := by omega
            refine ops_g (opG_deal (c := coAt wb dl dn H4 m js nx wk) (live := false) (z1 := .int .i64 0) (z2 := .agg #[.int .i64 0, .int .i64 0, .slice none 0 0, .int .i64 0]) rfl rfl rfl ⟨fun e => (by cases e), fun e => absurd e hnx⟩ (i1.hope (by omega)) rfl rfl rfl (fun j v D h => h.elim fun _ h => h.elim fun _ h => h.2.2.2) (fun k e hk => (by cases e)) (fun k j v D hk hok => ?_))
            obtain ⟨job, vr, e1, rfl, e3, e4⟩ := hok
            refine ⟨[ownS rInt 1 8 3 Heap.empty vr (planRt m job).Cells], e3, ?_⟩
            refine ops_L (sub_flat Heap.empty Hc) ?_
            refine ops_freeze vr fun H5 hl5 hs5 => ?_
            obtain ⟨bv, cv, rfl, _, _⟩ := hs5.1.shape
            have hjn := i1.job hk
            have hj : j < js.length := by omega
            refine ops_L (L' := ownS rRoute 2 32 41 H5 (.slice (some ⟨br, 0, none⟩) js.length js.length) rts :: ownS rInt 1 8 28 H5 (.slice (some ⟨bc, 0, none⟩) js.length js.length) cds :: R) ((ownS_rle fun _ _ h => rRoute_rle (Rle.of_le hl5) h).trans (.cons (ownS_rle fun _ _ h => h))) ?_
            refine walk ?_
            refine ops_alloc rfl fun p16 _ => ?_
            refine walk ?_
            refine ex_rowS (.slice (some ⟨br, 0, none⟩) js.length js.length) (by omega) fun b cap cs sp e h1 h2 h3 h4 hr hsm => ?_
            rw [i3] at e
            cases e
            refine ex_any 12 [row p16 67 [.int .i64 j, I (planRt m job).Start, .slice bv (planRt m job).Cells.length cv, I (planC m job)]] ?_
            refine stepY 0 ?_; refine stepY 1 ?_; refine stepY 2 ?_; refine stepY 3 ?_; refine stepY 4 ?_; refine stepY 5 ?_; refine stepY 6 ?_; refine stepY 7 ?_; refine stepY 8 ?_; refine stepY 9 ?_
            refine gny_ixB 10 rfl rfl rfl (j := j) (by omega) ?_
            rw [show 0 + ((j : Nat) : Int).toNat * 2 = j * 2 by omega]
            refine any_sta 11 rfl rfl rfl rfl (by simp at h4 ⊢; omega) rfl ⟨subA, ?_⟩
            refine any_rest rfl ?_
            have hset := hr.set (j := j) (us := [I (planRt m job).Start, .slice bv (planRt m job).Cells.length cv]) (y := planRt m job) ⟨_, rfl, fits_start (hft job (List.mem_of_getElem? e1)), hs5⟩ (by omega)
            have hlr : (rts.set j (planRt m job)).length = js.length := by simpa using i3
            refine ops_L (L' := ownS rRoute 2 32 41 H5 (.slice (some ⟨br, 0, none⟩) js.length js.length) (rts.set j (planRt m job)) :: row p16 67 [.int .i64 j, I (planRt m job).Start, .slice bv (planRt m job).Cells.length cv, I (planC m job)] :: ownS rInt 1 8 28 H5 (.slice (some ⟨bc, 0, none⟩) js.length js.length) cds :: R) ?_ ?_
            · have hm2 := ownS_mk (sz := 2) (T := 41) (w := 32) (s := .slice (some ⟨br, 0, none⟩) js.length js.length) (L := row p16 67 [.int .i64 j, I (planRt m job).Start, .slice bv (planRt m job).Cells.length cv, I (planC m job)] :: ownS rInt 1 8 28 H5 (.slice (some ⟨bc, 0, none⟩) js.length js.length) cds :: R) hset (by rw [hlr]; rw [i3] at hsm; exact hsm)
              rw [hlr] at hm2
              rw [i3] at h1 h3
              exact (own_set h3 h1 h2 h4 (by simp; omega)).trans hm2
            refine ops_stS rfl rfl rfl (R := rInt) (y' := planC m job) ⟨rfl, fits_planC⟩ (by omega) ?_
            refine walk ?_
            refine out_nextG hK4 (nx, bk + 1, wk.set k none, rts.set j (planRt m job), cds.set j (planC m job), H5) ⟨i1.back hk (done_set e1 (by omega) (by omega)) (fun i hne h => done_ne hne h), by simpa using i2, hlr, by simpa using i4, i5.trans hl5⟩ (by simp only; omega)
        · obtain ⟨f1, f2, f3⟩ := i1.fin (by omega)
          obtain ⟨rfl, rfl⟩ := done_all i3 i4 f3
          clear hK4
          refine walk ?_
          refine ops_g0 (opG_clos (c := coAt wb dl dn H4 m js nx wk) rfl rfl rfl (fun k o h => busy_none f2 h) rfl ?_)
          refine walk ?_
          refine ops_g (opG_call (vs := [_]) (A := []) rfl (wgWait_spec (c := { coAt wb dl dn H4 m js nx wk with shut := true }) rfl rfl rfl (by show wk.length + 2 < _; omega)) .nil fun r W1 H' B hh => ?_)
          obtain ⟨eH, eB, rfl, rfl⟩ := hh
          subst eH eB
          refine ops_nil (out_seq ?_)
          refine Go.X.ex_back (c := { coAt wb dl dn H4 m js nx wk with st := .done, shut := true }) rfl rfl hbn fun H6 hr6 hb6 => ?_
          show Ex _ _ (setS W0 .solo) _ _ _ _ _ _
          rw [setS_eq hs]
          have hfin : H.le H6 := hl.trans hb6
          refine walk ?_
          refine out_scope_ret (finB [ownS rRoute 2 32 41 H6 (.slice (some ⟨br, 0, none⟩) js.length js.length) (js.map (planRt m)), ownS rInt 1 8 28 H6 (.slice (some ⟨bc, 0, none⟩) js.length js.length) (js.map (planC m))] ?_ (hs := ?_))
          · exact ⟨_, _, rfl, rfl⟩
          · exact (ownS_rle fun _ _ h => rRoute_rle hr6 h).trans (.cons (ownS_rle fun _ _ h => h))
end Go.Proofs.YtafhinjggdknjaaDoor
