/- Where one may be a tick later: the two lists are one. No program in sight. -/
import Derived.Test.YtafhinjggdknjaaDoorPPA
import Derived.Test.YtafhinjggdknjaaDoorPZN
import Derived.Lib.SlicesCompact
set_option linter.unusedVariables false
set_option linter.unusedSimpArgs false
namespace Go.Sx
open Go Go.X
theorem reach_mem {ops : Array Oper} {m j : Nat} (h : (reachL ops m).contains j = true) : Go.Sx.Reach ops m j := by
  have key : ∀ (l : List Nat) (S : List Nat), (∀ j ∈ S, Go.Sx.Reach ops m j) → ∀ j ∈ l.foldl (reachStep ops) S, Go.Sx.Reach ops m j := by
    intro l
    induction l with
    | nil => exact fun S hS => hS
    | cons i l ih => exact fun S hS => ih _ (reachStep_ok hS i)
  have h2 : j ∈ reachL ops m := by simpa using h
  refine key _ _ ?_ j h2
  intro x hx
  split at hx
  · rename_i o ho
    obtain ⟨e, h1, h2, rfl⟩ := mem_binding hx
    exact .dep ho h1 h2
  · cases hx
def allWait (ops : Array Oper) (m : Nat) : Bool := (List.range ops.size).all fun j => Nat.ble j m || (List.range j).all fun i => (reachL ops j).contains i
theorem allWait_spec {ops : Array Oper} {m : Nat} (h : allWait ops m = true) : ∀ j, m < j → j < ops.size → ∀ i, i < j → Reach ops j i := fun j hj hs i hi => by
  have h1 := (List.all_eq_true.1 h) j (List.mem_range.2 hs)
  simp only [Bool.or_eq_true, Nat.ble_eq] at h1
  rcases h1 with h1 | h1
  · omega
  · exact reach_mem ((List.all_eq_true.1 h1) i (List.mem_range.2 hi))
section
variable {P : Program} {n : NF} {W0 : GW} {F : Slots} {H : Heap} {L : List HProp} {Q : Exit → Act → GW → Prop} {early : Nat → Prop} {QF : Slots → Prop} {i : Nat} {d : Tmp} {op : Op} {ty : TypeId} {pos : String} {aft : Array Edge} {r : List Oper} {v : Value} {vs : List Value}
theorem SQ1.pure (h : OpP P n ⟨some d, op, ty, pos, aft, none⟩ F H [] v) (hk : SQ1 P n H L early QF (i + 1) r ((d, v) :: F)) (hd : Nat.blt d n.n = true := by rfl) : SQ1 P n H L early QF i (⟨some d, op, ty, pos, aft, none⟩ :: r) F :=
  ⟨d, v, rfl, hd, rfl, .inl h, hk⟩
theorem SQ1.p {side : Prop} (hv : opvs F (opsOf op) = some vs) [hp : POp P op vs side v] (hk : SQ1 P n H L early QF (i + 1) r ((d, v) :: F)) (hs : side := by first | exact True.intro | omega | assumption | (unfold Go.Sx.fits; omega) | (refine ⟨?_, ?_⟩ <;> (try unfold Go.Sx.fits) <;> omega)) (hd : Nat.blt d n.n = true := by rfl) : SQ1 P n H L early QF i (⟨some d, op, ty, pos, aft, none⟩ :: r) F :=
  .pure (hp.run hs hv) hk hd
theorem SQ1.ix {t T : TypeId} {x y : Operand} {b len cap sz j : Nat} {kd : IntKind} {ii : Int} [TSl P t T] [TSz P T sz] (hv : opvs F [x, y] = some [.slice (some ⟨b, 0, none⟩) len cap, .int kd ii]) (hi : ii = j) (hj : j < len)
    (hk : SQ1 P n H L early QF (i + 1) r ((d, .pointer (some ⟨b, j * sz, none⟩)) :: F)) (hd : Nat.blt d n.n = true := by rfl) : SQ1 P n H L early QF i (⟨some d, .indexAddr t x y, ty, pos, aft, none⟩ :: r) F := by
  subst hi
  have h := op_indexAddr (P := P) (n := n) (F := F) (H := H) (L := []) (T := t) (e := T) (dst := some d) (ty := ty) (pos := pos) (aft := aft) (g := none) (i := (j : Int)) (opvs2 hv).1 (opvs2 hv).2 (by omega) (by omega)
  rw [Nat.zero_add, Int.toNat_natCast] at h
  exact .pure h hk hd
theorem SQ1.ld {t T : TypeId} {x : Operand} {b off : Nat} {cs : List Value} {R : List HProp} [TAgg P t false] (he : early i) (hx : opv F x = some (.pointer (some ⟨b, off, none⟩))) [hr : HasRow L b T cs R] (hc : cs[off]? = some v)
    (hk : SQ1 P n H L early QF (i + 1) r ((d, v) :: F)) (hd : Nat.blt d n.n = true := by rfl) : SQ1 P n H L early QF i (⟨some d, .load t x, ty, pos, aft, none⟩ :: r) F :=
  ⟨d, v, rfl, hd, rfl, .inr ⟨he, op_load hx hr.has hc⟩, hk⟩
theorem SQ1.nil (h : QF F) : SQ1 P n H L early QF i [] F := h
theorem ex_quietN [hx : TMix P] {k : List Fr} {id : Nat} {ops r : List Oper} {ty : TypeId} {pos : String} {aft : Array Edge} {t T : TypeId} {x y : Operand} {b off : Nat} {cs : List Value} {R : List HProp} {v : Value} (m : Nat) [TSz P t 1] [hrow : HasRow L b T cs R]
    (hlist : ops.drop m = ⟨none, .store t x y, ty, pos, aft, none⟩ :: r) (h1 : v.oneCell' = true) (hoff : off < cs.length)
    (h : SQ1 P n H L (fun i => (reachL ops.toArray m).contains i = true) (fun F' => (opv F' x = some (.pointer (some ⟨b, off, none⟩)) ∧ opv F' y = some v) ∧ Ops P n W0 Q F' H (row b T (cs.set off v) :: R) false ops.toArray r k) 0 (ops.take m) F)
    (hr0 : Nat.blt 0 r.length = true := by rfl) (hall : allWait ops.toArray m = true := by decide +kernel) (hok : flowOkN ops.toArray = true := by decide +kernel) : Ex P n W0 Q F H L (.region id ops.toArray true) k := by
  have hm : (ops.take m).length = m := by
    have := congrArg List.length hlist
    simp only [List.length_drop, List.length_cons] at this
    rw [List.length_take]; omega
  have hl1 : ops.toArray.toList = ops.take m ++ ⟨none, .store t x y, ty, pos, aft, none⟩ :: r := by rw [← hlist, List.take_append_drop]
  have mono : ∀ {l : List Oper} {i : Nat} {F : Slots} {QF : Slots → Prop}, SQ1 P n H L (fun i => (reachL ops.toArray m).contains i = true) QF i l F → SQ1 P n H L (Reach ops.toArray m) QF i l F := by
    intro l
    induction l with
    | nil => intro i F QF h; exact h
    | cons o l ih =>
      intro i F QF h
      obtain ⟨d, v, e1, e2, e3, e4, e5⟩ := h
      exact ⟨d, v, e1, e2, e3, e4.imp (fun e => e) (fun e => ⟨reach_mem e.1, e.2⟩), ih e5⟩
  exact ⟨fun a w hF hS => wpV_region_draw fun tt => by
    simp only [Region.schedule, hx.h, Bool.true_or, if_true]
    refine flow_soundN (LE := row b T (cs.set off v) :: R) hl1 hm (by simpa using hr0) (allWait_spec hall) (FlowOk.ofN hok) rfl rfl (mono h) (fun F' hq a w hF hS => ?_) (fun F' hq a w hF hS => hq.2.run _ _ hF hS) hF hS tt
    have hst : OpW P n W0 ⟨none, .store t x y, ty, pos, aft, none⟩ F' H L (fun _ H' L' => H' = H ∧ L' = row b T (cs.set off v) :: R) := op_storeAt (vs := [v]) hq.1.1 hq.1.2 (by cases v <;> first | rfl | (simp [Value.oneCell'] at h1)) rfl (by simpa using h1) hrow.has (by simp; omega) ⟨rfl, by
      congr 1
      simp only [List.length_cons, List.length_nil, Nat.zero_add]
      rw [List.set_eq_take_append_cons_drop, if_pos hoff]; simp⟩
    exact hst a w _ hF hS fun v H' L' w' hl ⟨e1, e2⟩ hs => by rw [← e1, ← e2]; exact hs⟩
end
end Go.Sx
namespace Go.Sx
def SrtTo (ys : List Int) (i : Nat) : Prop := ∀ p q, p < q → q < i → ys.getD p 0 ≤ ys.getD q 0
def InsTo (zs : List Int) (j i : Nat) : Prop := ∀ p q, p < q → q ≤ i → q ≠ j → zs.getD p 0 ≤ zs.getD q 0
def swapL (zs : List Int) (j : Nat) : List Int := (zs.set (j + 1) (zs.getD j 0)).set j (zs.getD (j + 1) 0)
theorem swapL_at {zs : List Int} {j : Nat} (hj : j + 1 < zs.length) (p : Nat) : (swapL zs j).getD p 0 = if p = j then zs.getD (j + 1) 0 else if p = j + 1 then zs.getD j 0 else zs.getD p 0 := by
  simp only [swapL, List.getD_eq_getElem?_getD, List.getElem?_set, List.length_set]
  by_cases h1 : p = j
  · subst h1; simp [show p < zs.length by omega]
  · have h1' : ¬ j = p := fun e => h1 e.symm
    by_cases h2 : p = j + 1
    · subst h2; simp [hj]
    · have h2' : ¬ j + 1 = p := fun e => h2 e.symm
      simp [h1, h1', h2, h2']
theorem swapL_perm {zs : List Int} {j : Nat} (hj : j + 1 < zs.length) : (swapL zs j).Perm zs := by
  have e1 : zs.getD j 0 = zs[j] := by simp [List.getD_eq_getElem?_getD, show j < zs.length by omega]
  have e2 : zs.getD (j + 1) 0 = zs[j + 1] := by simp [List.getD_eq_getElem?_getD, hj]
  unfold swapL
  rw [e1, e2]
  exact List.set_set_perm (by omega) (by omega)
theorem InsTo.start {ys : List Int} {i : Nat} (h : SrtTo ys i) : InsTo ys i i := fun p q h1 h2 h3 => h p q h1 (by omega)
theorem InsTo.stop0 {zs : List Int} {i : Nat} (h : InsTo zs 0 i) : SrtTo zs (i + 1) := fun p q h1 h2 => h p q h1 (by omega) (by omega)
theorem InsTo.stop {zs : List Int} {j i : Nat} (h : InsTo zs (j + 1) i) (hji : j + 1 ≤ i) (hl : zs.getD j 0 ≤ zs.getD (j + 1) 0) : SrtTo zs (i + 1) := fun p q h1 h2 => by
  by_cases hq : q = j + 1
  · subst hq
    by_cases hp : p = j
    · subst hp; exact hl
    · exact Int.le_trans (h p j (by omega) (by omega) (by omega)) hl
  · exact h p q h1 (by omega) hq
theorem InsTo.swap {zs : List Int} {j i : Nat} (h : InsTo zs (j + 1) i) (hji : j + 1 ≤ i) (hi : i < zs.length) (hl : zs.getD (j + 1) 0 < zs.getD j 0) : InsTo (swapL zs j) j i := fun p q h1 h2 h3 => by
  have hj : j + 1 < zs.length := by omega
  rw [swapL_at hj, swapL_at hj, if_neg h3]
  by_cases hq : q = j + 1
  · subst hq
    rw [if_pos rfl]
    by_cases hp : p = j
    · subst hp; rw [if_pos rfl]; omega
    · rw [if_neg hp, if_neg (by omega)]; exact h p j (by omega) (by omega) (by omega)
  · rw [if_neg hq]
    by_cases hp : p = j
    · subst hp; rw [if_pos rfl]; exact h (p + 1) q (by omega) h2 hq
    · rw [if_neg hp]
      by_cases hp1 : p = j + 1
      · subst hp1; rw [if_pos rfl]; exact h j q (by omega) h2 hq
      · rw [if_neg hp1]; exact h p q h1 h2 hq
theorem SrtTo.pairwise {ys : List Int} (h : SrtTo ys ys.length) : ys.Pairwise (· ≤ ·) := by
  rw [List.pairwise_iff_getElem]
  intro i j hi hj hij
  have := h i j hij hj
  simpa [List.getD_eq_getElem?_getD, hi, hj] using this
theorem sorted_unique {ys zs : List Int} (hp : ys.Perm zs) (h1 : ys.Pairwise (· ≤ ·)) (h2 : zs.Pairwise (· ≤ ·)) : ys = zs :=
  hp.eq_of_pairwise (le := fun a b => a ≤ b) (fun a b _ _ h1 h2 => by omega) h1 h2
theorem sorted_is {ys xs : List Int} (hp : ys.Perm xs) (h1 : ys.Pairwise (· ≤ ·)) : ys = xs.mergeSort fun x y => decide (x ≤ y) := by
  refine sorted_unique (hp.trans (List.mergeSort_perm xs _).symm) h1 ?_
  have h := List.pairwise_mergeSort (le := fun x y : Int => decide (x ≤ y)) (fun a b c h1 h2 => by simp at *; omega) (fun a b => by simp; omega) xs
  exact h.imp fun h => of_decide_eq_true h
end Go.Sx
namespace Go.Proofs.YtafhinjggdknjaaDoor
open Go Go.Sx Go.X Go.Proofs
theorem nanS_spec {W0 : GW} {H : Heap} {x : Int} :
    Ct Tryd.prog 65 #[I x] W0 H [] (fun r H' B => r = .bool false ∧ B = [] ∧ H' = H) := by
  refine Ct.go fun R => ?_
  refine walk ?_
  refine fin0 ?_
  exact ⟨by simp, rfl, rfl⟩
theorem less_spec {W0 : GW} {H : Heap} {x y : Int} :
    Ct Tryd.prog 75 #[I x, I y] W0 H [] (fun r H' B => r = .bool (decide (x < y)) ∧ B = [] ∧ H' = H) := by
  refine Ct.go fun R => ?_
  refine walk ?_
  refine ops_pcall rfl rfl nanS_spec ?_
  refine walk ?_
  refine fin0 ?_
  exact ⟨by simp, rfl, rfl⟩
theorem cell_at {ys : List Int} {sp : List Value} {j : Nat} (hj : j < ys.length) : (ys.map I ++ sp)[j]? = some (I (ys.getD j 0)) := by
  rw [List.getElem?_append_left (by simpa using hj)]
  simp [List.getD_eq_getElem?_getD, hj]
theorem swap_cells {zs : List Int} {sp : List Value} {j : Nat} (hj : j + 1 < zs.length) :
    ((zs.map I ++ sp).set ((j + 1) * 1) (I (zs.getD j 0))).take (0 + (j : Int).toNat * 1) ++ [I (zs.getD (j + 1) 0)] ++ ((zs.map I ++ sp).set ((j + 1) * 1) (I (zs.getD j 0))).drop (0 + (j : Int).toNat * 1 + [I (zs.getD (j + 1) 0)].length) = (swapL zs j).map I ++ sp := by
  simp only [Nat.mul_one, Nat.zero_add, Int.toNat_natCast, List.length_cons, List.length_nil]
  have h1 : (zs.map I ++ sp).set (j + 1) (I (zs.getD j 0)) = (zs.set (j + 1) (zs.getD j 0)).map I ++ sp := by
    rw [List.set_append_left _ _ (by simpa using hj), List.map_set]
  rw [h1]
  unfold swapL
  generalize hz : zs.set (j + 1) (zs.getD j 0) = z1
  have hl1 : j < z1.length := by rw [← hz]; simp; omega
  have h2 : (z1.map I ++ sp).set j (I (zs.getD (j + 1) 0)) = (z1.set j (zs.getD (j + 1) 0)).map I ++ sp := by
    rw [List.set_append_left _ _ (by simpa using hl1), List.map_set]
  rw [← h2]
  generalize hc : z1.map I ++ sp = c
  have hl : j < c.length := by rw [← hc]; simp; omega
  rw [List.set_eq_take_append_cons_drop, if_pos hl]
  simp
set_option maxHeartbeats 8000000 in
theorem isort_spec {W0 : GW} {H : Heap} {b T cap : Nat} {xs : List Int} {sp : List Value} (hn : xs.length ≤ 12) (hf : ∀ x ∈ xs, fits x) :
    Ct Tryd.prog 69 #[.slice (some ⟨b, 0, none⟩) xs.length cap, I 0, I xs.length] W0 H [row b T (xs.map I ++ sp)] (fun r H' B => r = .tuple #[] ∧ H' = H ∧ ∃ ys : List Int, ys.Perm xs ∧ ys.Pairwise (· ≤ ·) ∧ B = [row b T (ys.map I ++ sp)]) := by
  refine Ct.go fun R => ?_
  refine walk ?_
  refine ex_loop (σ := Nat × List Int) (fun s => (1 ≤ s.1 ∧ s.1 ≤ max 1 xs.length) ∧ s.2.Perm xs ∧ SrtTo s.2 s.1) (fun s => [(0, .slice (some ⟨b, 0, none⟩) xs.length cap), (1, I 0), (2, I xs.length), (6, I s.1)]) (fun _ => H) (fun s => row b T (s.2.map I ++ sp) :: R) (fun s => 12 - s.1) (1, xs) ⟨⟨Nat.le_refl _, by omega⟩, .refl _, fun p q h1 h2 => by omega⟩ fun ⟨i, ys⟩ ⟨⟨hi1, hi2⟩, hp, hs⟩ K hL => ?_
  simp only at hi1 hi2 hp hs
  dsimp only
  have hyl : ys.length = xs.length := hp.length_eq
  refine walk ?_
  refine ex_if rfl (fun hk => ?_) (fun hk => ?_)
  · have hk1 : i < xs.length := by omega
    refine walk ?_
    refine ex_loop (σ := Nat × List Int) (fun s => s.1 ≤ i ∧ s.2.Perm xs ∧ InsTo s.2 s.1 i) (fun s => [(0, .slice (some ⟨b, 0, none⟩) xs.length cap), (1, I 0), (2, I xs.length), (6, I i), (7, I s.1)]) (fun _ => H) (fun s => row b T (s.2.map I ++ sp) :: R) (fun s => s.1) (i, ys) ⟨Nat.le_refl _, hp, InsTo.start hs⟩ fun ⟨j, zs⟩ ⟨hj, hpz, hz⟩ K2 hL2 => ?_
    simp only at hj hpz hz
    dsimp only
    have hzl : zs.length = xs.length := hpz.length_eq
    cases j with
    | zero =>
      refine walk ?_
      refine ex_any 15 [] ?_
      refine stepY 0 ?_; refine stepY 1 ?_; refine stepY 2 ?_; refine stepY 3 ?_; refine stepY 4 ?_; refine stepY 5 ?_; refine stepY 6 ?_; refine stepY 7 ?_; refine stepY 8 ?_; refine stepY 9 ?_; refine stepY 10 ?_; refine stepY 11 ?_; refine stepY 12 ?_; refine stepY 13 ?_; refine stepY 14 ?_
      refine any_rest rfl ?_
      refine walk ?_
      refine out_next hL (i + 1, zs) ⟨⟨by simp only; omega, by simp only; omega⟩, hpz, InsTo.stop0 hz⟩
    | succ j =>
      have hj1 : ((j + 1 : Nat) : Int) - 1 = j := by omega
      refine walk ?_
      refine ex_any 15 [row b T (zs.map I ++ sp)] ?_
      refine stepY 0 ?_; refine stepY 1 ?_; refine stepY 2 ?_; refine stepY 3 ?_; refine stepY 4 ?_; refine stepY 5 ?_
      refine gny_ixB 6 rfl rfl rfl (j := j + 1) (by omega) ?_
      refine gny_ld 7 rfl rfl rfl (v := I (zs.getD (j + 1) 0)) (by rw [Nat.zero_add, Int.toNat_natCast, Nat.mul_one]; exact cell_at (by omega)) ?_
      refine stepY 8 ?_; refine stepY 9 ?_; refine stepY 10 ?_
      rw [hj1]
      refine gny_ixB 11 rfl rfl rfl (j := j) (by omega) ?_
      refine gny_ld 12 rfl rfl rfl (v := I (zs.getD j 0)) (by rw [Nat.zero_add, Int.toNat_natCast, Nat.mul_one]; exact cell_at (by omega)) ?_
      refine gny_pcall 13 rfl rfl rfl less_spec ?_
      refine stepY 14 ?_
      refine any_rest rfl ?_
      refine walk ?_
      have hc1 := cell_at (ys := zs) (sp := sp) (j := j + 1) (by omega)
      have hc0 := cell_at (ys := zs) (sp := sp) (j := j) (by omega)
      refine ex_if rfl (fun hq => ?_) (fun hq => ?_)
      · refine walk ?_
        refine ex_quietN (b := b) (off := (j + 1) * 1) (v := I (zs.getD j 0)) 15 rfl rfl (by simp; omega) ?_
        refine .p rfl (.p rfl (.p rfl (.p rfl (.p rfl ?_))))
        rw [hj1]
        refine .p rfl (.p rfl (.p rfl ?_))
        rw [hj1]
        refine .ix rfl rfl (j := j) (by omega) ?_
        refine .ld (by decide +kernel) rfl (v := I (zs.getD j 0)) (by rw [Nat.mul_one]; exact hc0) ?_
        refine .p rfl (.p rfl ?_)
        refine .ix rfl rfl (j := j + 1) (by omega) ?_
        refine .ld (by decide +kernel) rfl (v := I (zs.getD (j + 1) 0)) (by rw [Nat.mul_one]; exact hc1) ?_
        refine .ix rfl rfl (j := j + 1) (by omega) ?_
        refine .nil ⟨⟨rfl, rfl⟩, ?_⟩
        refine ops_pure rfl rfl (op_indexAddr (i := (j : Int)) rfl rfl (by omega) (by omega)) ?_
        refine ops_n (op_storeAt (vs := [I (zs.getD (j + 1) 0)]) rfl rfl rfl rfl rfl .here (by simp; omega) ?_)
        refine walk ?_
        rw [hj1]
        refine out_next hL2 (j, swapL zs j) ⟨by simp only; omega, (swapL_perm (by omega)).trans hpz, InsTo.swap hz hj (by omega) hq⟩ (by simp only; omega) (hs := ?_)
        rw [swap_cells (by omega)]
        exact Sub.refl _
      · refine walk ?_
        refine out_next hL (i + 1, zs) ⟨⟨by simp only; omega, by simp only; omega⟩, hpz, InsTo.stop hz hj (by simp only; omega)⟩
  · clear hL
    refine walk ?_
    refine endnB [row b T (ys.map I ++ sp)] ?_
    exact ⟨rfl, rfl, ys, hp, SrtTo.pairwise fun p q h1 h2 => hs p q h1 (by omega), rfl⟩
theorem isort0_spec {W0 : GW} {H : Heap} {v : Value} :
    Ct Tryd.prog 69 #[v, I 0, I 0] W0 H [] (fun r H' B => r = .tuple #[] ∧ B = [] ∧ H' = H) := by
  refine Ct.go fun R => ?_
  refine walk ?_
  refine ex_loop (σ := Unit) (fun _ => True) (fun _ => [(1, I 0), (2, I 0), (6, I 1)]) (fun _ => H) (fun _ => R) (fun _ => 0) () trivial fun _ _ K hL => ?_
  clear hL
  refine walk ?_
  refine endn0 ?_
  exact ⟨rfl, rfl, rfl⟩
theorem op_ixS {P : Program} {n : NF} {F : Slots} {H : Heap} {L : List HProp} {dst : Option Tmp} {ty : TypeId} {pos : String} {aft : Array Edge} {g : Option (Nat × Bool)} {T : TypeId} {x y : Operand} {s : ByteArray} {i : Nat} {k : IntKind} [hT : TSt P T] (hx : opv F x = some (.string s)) (hy : opv F y = some (.int k i)) (h : i < s.size) :
    OpP P n ⟨dst, .index T x y, ty, pos, aft, g⟩ F H L (.int .u8 (s[i]'h).toNat) := .mk fun a w hF hS => by
  have hg : s[i]? = some (s[i]'h) := by simp [h]
  simp [execOp, hF.opv hx, hF.opv hy, Instr.index, asIntOf, run_underlying hT.und, hg]
theorem len64_spec {W0 : GW} {H : Heap} {n : Nat} (hn : n ≤ 12) :
    Ct Tryd.prog 79 #[.int .u64 n] W0 H [] (fun r H' B => (∃ k : Int, r = I k ∧ fits k) ∧ B = [] ∧ H' = H) := by
  refine Ct.go fun R => ?_
  refine walk ?_
  rw [show IntKind.u8.wrap (n : Int) = n by simp [IntKind.wrap, IntKind.bits, IntKind.signed]; omega]
  refine ops_pure rfl rfl (op_ixS (i := n) rfl rfl (Nat.lt_of_lt_of_le (show n < 256 by omega) (by decide +kernel))) ?_
  generalize hk : UInt8.toNat _ = k
  have hk2 : k < 256 := hk ▸ UInt8.toNat_lt _
  have hkw : IntKind.i64.wrap (k : Int) = k := by simp [IntKind.wrap, IntKind.bits, IntKind.signed]; omega
  refine walkG ?_
  refine fin0 ?_
  exact ⟨⟨_, rfl, by unfold fits; omega⟩, rfl, rfl⟩
theorem len_spec {W0 : GW} {H : Heap} {n : Nat} (hn : n ≤ 12) :
    Ct Tryd.prog 64 #[.int .u64 n] W0 H [] (fun r H' B => (∃ k : Int, r = I k ∧ fits k) ∧ B = [] ∧ H' = H) := by
  refine Ct.go fun R => ?_
  refine walk ?_
  refine ops_call rfl rfl (len64_spec hn) fun r H' B hl ⟨⟨k, er, hk⟩, eB, eH⟩ => ?_
  subst er eB eH
  refine walk ?_
  refine fin0 ?_
  exact ⟨⟨k, rfl, hk⟩, rfl, rfl⟩
theorem pdq_spec {W0 : GW} {H : Heap} {b T cap : Nat} {k : Int} {xs : List Int} {sp : List Value} (hn : xs.length ≤ 12) (hf : ∀ x ∈ xs, fits x) :
    Ct Tryd.prog 63 #[.slice (some ⟨b, 0, none⟩) xs.length cap, I 0, I xs.length, I k] W0 H [row b T (xs.map I ++ sp)] (fun r H' B => r = .tuple #[] ∧ H' = H ∧ ∃ ys : List Int, ys.Perm xs ∧ ys.Pairwise (· ≤ ·) ∧ B = [row b T (ys.map I ++ sp)]) := by
  refine Ct.go fun R => ?_
  refine walk ?_
  refine ex_loop (σ := Unit) (fun _ => True) (fun _ => [(0, .slice (some ⟨b, 0, none⟩) xs.length cap), (1, I 0), (2, I xs.length), (3, I k)]) (fun _ => H) (fun _ => row b T (xs.map I ++ sp) :: R) (fun _ => 0) () trivial fun _ _ K hL => ?_
  clear hL
  refine walk ?_
  refine ops_call rfl rfl (isort_spec (b := b) (T := T) (cap := cap) (sp := sp) hn hf) fun r H' B hl ⟨er, eH, ys, h1, h2, eB⟩ => ?_
  subst er eB eH
  refine walk ?_
  refine finB [row b T (ys.map I ++ sp)] ?_
  exact ⟨rfl, rfl, ys, h1, h2, rfl⟩
theorem pdq0_spec {W0 : GW} {H : Heap} {v : Value} {k : Int} :
    Ct Tryd.prog 63 #[v, I 0, I 0, I k] W0 H [] (fun r H' B => r = .tuple #[] ∧ B = [] ∧ H' = H) := by
  refine Ct.go fun R => ?_
  refine walk ?_
  refine ex_loop (σ := Unit) (fun _ => True) (fun _ => [(0, v), (1, I 0), (2, I 0), (3, I k)]) (fun _ => H) (fun _ => R) (fun _ => 0) () trivial fun _ _ K hL => ?_
  clear hL
  refine walk ?_
  refine ops_pcall rfl rfl isort0_spec ?_
  refine walk ?_
  refine fin0 ?_
  exact ⟨rfl, rfl, rfl⟩
theorem rl_int {H : Heap} : ∀ {cs : List Value} {xs : List Int}, RL rInt H cs xs → cs = xs.map I ∧ ∀ x ∈ xs, fits x
  | cs, [], h => ⟨h, by simp⟩
  | cs, x :: xs, ⟨c, r, e, ⟨h1, h2⟩, h3⟩ => by
    obtain ⟨e1, e2⟩ := rl_int h3
    subst h1 e1
    exact ⟨e, fun y hy => by rcases List.mem_cons.1 hy with h | h; exact h ▸ h2; exact e2 y h⟩
set_option maxRecDepth 100000 in
theorem sortI_spec {W0 : GW} {H H0 : Heap} {T : Nat} {v : Value} {xs : List Int} (hn : xs.length ≤ 12) :
    Ct Tryd.prog 51 #[v] W0 H [ownS rInt 1 8 T H0 v xs] (fun r H' B => r = .tuple #[] ∧ B = [ownS rInt 1 8 T H0 v (xs.mergeSort fun x y => decide (x ≤ y))] ∧ H' = H) := by
  refine Ct.go fun R => ?_
  by_cases h0 : xs = []
  · subst h0
    refine ex_shape v fun base cap e _ _ _ => ?_
    subst e
    refine walk ?_
    refine ops_call rfl rfl (len_spec (n := 0) (by omega)) fun r H' B hl ⟨⟨k, er, hk⟩, eB, eH⟩ => ?_
    subst er eB eH
    refine walk ?_
    refine ops_pcall rfl rfl pdq0_spec ?_
    refine walk ?_
    refine endnB [ownS rInt 1 8 T H0 (.slice base 0 cap) []] ?_
    exact ⟨rfl, by simp, rfl⟩
  · have hpos : 0 < xs.length := List.length_pos_iff.2 h0
    refine ex_rowS v hpos fun b cap cs sp e h1 h2 h3 h4 hR hw => ?_
    subst e
    obtain ⟨rfl, hfx⟩ := rl_int hR
    refine walk ?_
    rw [show IntKind.u64.wrap (xs.length : Int) = xs.length by simp [IntKind.wrap, IntKind.bits, IntKind.signed]; omega]
    refine ops_call rfl rfl (len_spec (n := xs.length) hn) fun r H' B hl ⟨⟨k, er, hk⟩, eB, eH⟩ => ?_
    subst er eB eH
    refine walk ?_
    refine ops_call rfl rfl (pdq_spec (b := b) (T := T) (cap := cap) (k := k) (sp := sp) hn hfx) fun r H2 B hl2 ⟨er, eH, ys, p1, p2, eB⟩ => ?_
    subst er eB eH
    refine walk ?_
    have hyl : ys.length = xs.length := p1.length_eq
    have hRy : RL rInt H0 (ys.map I) ys := RL.mk1 (R := rInt) (val := fun x => .int .i64 x) (ok := fits) fun x hx => hfx x (p1.mem_iff.1 hx)
    have hsub : Sub (row b T (ys.map I ++ sp) :: R) (ownS rInt 1 8 T H0 (.slice (some ⟨b, 0, none⟩) ys.length cap) ys :: R) :=
      (own_shut (m := ys.length) (by simp) (by omega) h2 (by simpa [hyl] using h4)).trans (ownS_mk hRy (by rw [hyl]; exact hw))
    rw [hyl] at hsub
    refine endnB [ownS rInt 1 8 T H0 (.slice (some ⟨b, 0, none⟩) xs.length cap) ys] ?_ (hs := hsub)
    exact ⟨rfl, by rw [sorted_is p1 p2], rfl⟩
theorem mul64_spec {W0 : GW} {H : Heap} {n : Nat} (hn : n ≤ 24) :
    Ct Tryd.prog 81 #[.int .u64 1, .int .u64 n] W0 H [] (fun r H' B => r = .tuple #[.int .u64 0, .int .u64 n] ∧ B = [] ∧ H' = H) := by
  refine Ct.go fun R => ?_
  refine walk ?_
  refine fin0 ?_
  refine ⟨?_, rfl, rfl⟩
  have hc : n = 0 ∨ n = 1 ∨ n = 2 ∨ n = 3 ∨ n = 4 ∨ n = 5 ∨ n = 6 ∨ n = 7 ∨ n = 8 ∨ n = 9 ∨ n = 10 ∨ n = 11 ∨ n = 12 ∨ n = 13 ∨ n = 14 ∨ n = 15 ∨ n = 16 ∨ n = 17 ∨ n = 18 ∨ n = 19 ∨ n = 20 ∨ n = 21 ∨ n = 22 ∨ n = 23 ∨ n = 24 := by omega
  rcases hc with rfl | rfl | rfl | rfl | rfl | rfl | rfl | rfl | rfl | rfl | rfl | rfl | rfl | rfl | rfl | rfl | rfl | rfl | rfl | rfl | rfl | rfl | rfl | rfl | rfl <;> rfl
theorem mul1_spec {W0 : GW} {H : Heap} {n : Nat} (hn : n ≤ 24) :
    Ct Tryd.prog 66 #[.int .u64 1, .int .u64 n] W0 H [] (fun r H' B => r = .tuple #[.int .u64 0, .int .u64 n] ∧ B = [] ∧ H' = H) := by
  refine Ct.go fun R => ?_
  refine walk ?_
  refine ops_pcall rfl rfl (mul64_spec hn) ?_
  refine walk ?_
  refine fin0 ?_
  exact ⟨rfl, rfl, rfl⟩
theorem getA {d : Array Int} {j : Nat} (hj : j < d.size) {sp : List Value} : (d.toList.map I ++ sp)[j]? = some (I d[j]!) := by
  rw [List.getElem?_append_left (by simpa using hj)]
  simp [hj]
theorem lay_list : ∀ (xs : List Int) (d : Array Int) (k : Nat), k + xs.length = d.size → (Lib.lay d k xs).toList = d.toList.take k ++ xs
  | [], d, k, h => by simp only [Lib.lay, List.append_nil]; rw [List.take_of_length_le (by simp at h ⊢; omega)]
  | x :: r, d, k, h => by
    simp only [List.length_cons] at h
    have hk : k < d.size := by omega
    simp only [Lib.lay]
    rw [lay_list r _ (k + 1) (by simp; omega)]
    simp only [Array.toList_setIfInBounds]
    rw [List.take_set, List.take_succ_eq_append_getElem (by simpa using hk)]
    rw [List.set_append_right _ _ (by simp; omega)]
    simp [Nat.min_eq_left (Nat.le_of_lt hk)]
theorem compact_end {d dk : Array Int} {k : Nat} (h : Lib.CompInv d d.size k dk) : dk.toList.take k = Lib.compact d.toList := by
  have h1 := h.done 0
  have h2 := congrArg Array.toList h1
  have hk := h.lt
  rw [lay_list _ _ _ (by simp [h.size]; omega)] at h2
  have h3 := congrArg (List.take k) h2
  rw [List.take_left' (by simp [h.size]; omega)] at h3
  rw [h3]
  simp only [List.toList_toArray]
  rw [List.take_left' h.len]
  unfold Lib.compact
  simp
theorem compact_sub {xs : List Int} {x : Int} (h : x ∈ Lib.compact xs) : x ∈ xs := by
  unfold Lib.compact Lib.compactUpTo at h
  obtain ⟨j, hj, rfl⟩ := List.mem_map.1 h
  have := List.mem_range.1 (List.mem_filter.1 hj).1
  simp [this]
set_option maxHeartbeats 8000000 in
theorem compactI_spec {W0 : GW} {H H0 : Heap} {v : Value} {xs : List Int} :
    Ct Tryd.prog 52 #[v] W0 H [ownS rInt 1 8 3 H0 v xs] (fun r H' B => B = [ownS rInt 1 8 3 H0 r (Lib.compact xs)] ∧ H' = H) := by
  refine Ct.go fun R => ?_
  by_cases h0 : xs.length < 2
  · have hall : Lib.compact xs = xs := Lib.compact_all xs fun j hj => Lib.keeps_lt_one _ j (by
      by_cases e : j = 0
      · omega
      · omega)
    refine ex_shape v fun base cap e _ _ _ => ?_
    subst e
    refine walk ?_
    refine finB [ownS rInt 1 8 3 H0 (.slice base xs.length cap) xs] ?_
    exact ⟨by rw [hall], rfl⟩
  refine ex_rowS v (by omega) fun b cap cs sp e h1 h2 h3 h4 hR hw => ?_
  subst e
  obtain ⟨rfl, hfx⟩ := rl_int hR
  refine walk ?_
  refine ex_loop (σ := Nat) (fun k => (1 ≤ k ∧ k ≤ xs.length) ∧ ∀ j, j < k → Lib.keeps xs.toArray j = true) (fun k => [(3, I k), (0, .slice (some ⟨b, 0, none⟩) xs.length cap)]) (fun _ => H) (fun _ => row b 3 (xs.map I ++ sp) :: R) (fun k => xs.length - k) 1 ⟨⟨Nat.le_refl _, by omega⟩, Lib.keeps_lt_one _⟩ fun k ⟨⟨hk1, hk2⟩, hk⟩ K hL => ?_
  refine walk ?_
  refine ex_if rfl (fun hlt => ?_) (fun hlt => ?_)
  · refine walk ?_
    refine ops_pure rfl rfl (op_load rfl .here (v := I (xs.toArray[k]!)) (by rw [show 0 + k * 1 = k by omega]; exact getA (d := xs.toArray) (by simp; omega))) ?_
    refine walk ?_
    refine ops_pure rfl rfl (op_load rfl .here (v := I (xs.toArray[k - 1]!)) (by rw [show 0 + ((k : Int) - 1).toNat * 1 = k - 1 by omega]; exact getA (d := xs.toArray) (by simp; omega))) ?_
    refine walk ?_
    refine ex_if rfl (fun he => ?_) (fun he => ?_)
    · have hkn : Lib.keeps xs.toArray k = false := Lib.keeps_neg (by omega) he
      refine walk ?_
      refine ex_loop (σ := Nat × Nat × Array Int) (fun s => (1 ≤ s.1 ∧ s.1 ≤ xs.length - k) ∧ Lib.CompInv xs.toArray (k + s.1) s.2.1 s.2.2) (fun s => [(5, I s.1), (4, .slice (some ⟨b, 0 + k * 1, none⟩) (xs.length - k) (cap - k)), (3, I s.2.1), (0, .slice (some ⟨b, 0, none⟩) xs.length cap)]) (fun _ => H) (fun s => row b 3 (s.2.2.toList.map I ++ sp) :: R) (fun s => xs.length - s.1) (1, k, xs.toArray) ⟨⟨Nat.le_refl _, by simp only; omega⟩, Lib.CompInv.start hk hkn⟩ fun ⟨i, q, dk⟩ ⟨⟨hi1, hi2⟩, hc⟩ K2 hL2 => ?_
      simp only at hi1 hi2 hc
      dsimp only
      have hds : dk.size = xs.length := by have := hc.size; simpa using this
      have hql := hc.lt
      refine walk ?_
      refine ex_if rfl (fun hli => ?_) (fun hli => ?_)
      · refine walk ?_
        refine ops_pure rfl rfl (op_load rfl .here (v := I (dk[k + i]!)) (by rw [show 0 + k * 1 + i * 1 = k + i by omega]; exact getA (by omega))) ?_
        refine walk ?_
        refine ops_pure rfl rfl (op_load rfl .here (v := I (dk[k + i - 1]!)) (by rw [show 0 + k * 1 + ((i : Int) - 1).toNat * 1 = k + i - 1 by omega]; exact getA (by omega))) ?_
        refine walk ?_
        have e1 := hc.high (k + i) (by omega)
        have e2 := hc.high (k + i - 1) (by omega)
        rw [e1, e2]
        refine ex_if rfl (fun hne => ?_) (fun hne => ?_)
        · have hc2 := hc.keep (by simp only [List.size_toArray]; omega) (Lib.keeps_pos hne)
          refine walk ?_
          refine ops_pure rfl rfl (op_load rfl .here (v := I (dk[k + i]!)) (by rw [show 0 + k * 1 + i * 1 = k + i by omega]; exact getA (by omega))) ?_
          refine walk ?_
          rw [e1]
          refine ops_n (op_storeAt (vs := [I (xs.toArray[k + i]!)]) rfl rfl rfl rfl rfl .here (by simp; omega) ?_)
          refine walk ?_
          refine out_next hL2 (i + 1, q + 1, dk.setIfInBounds q xs.toArray[k + i]!) ⟨⟨by simp only; omega, by simp only; omega⟩, hc2⟩ (by simp only; omega) (hs := ?_)
          have e3 : (dk.setIfInBounds q xs.toArray[k + i]!).toList.map I ++ sp = (dk.toList.map I ++ sp).take (0 + q * 1) ++ [I xs.toArray[k + i]!] ++ (dk.toList.map I ++ sp).drop (0 + q * 1 + [I xs.toArray[k + i]!].length) := by
            simp only [Nat.mul_one, Nat.zero_add, List.length_cons, List.length_nil, Array.toList_setIfInBounds, List.map_set]
            rw [← List.set_append_left (t := sp) q _ (by simp; omega), List.set_eq_take_append_cons_drop, if_pos (by simp; omega)]
            simp
          rw [e3]
          exact Sub.refl _
        · have hc2 := hc.skip (Lib.keeps_neg (by omega) (Classical.not_not.1 hne))
          refine walk ?_
          refine out_next hL2 (i + 1, q, dk) ⟨⟨by simp only; omega, by simp only; omega⟩, hc2⟩ (by simp only; omega)
      · clear hL2
        have hi3 : k + i = xs.length := by omega
        rw [hi3] at hc
        have hce := compact_end (d := xs.toArray) (by simpa using hc)
        refine walk ?_
        refine ops_n (op_clear rfl .here (by simp; omega) (by decide +kernel) fun zs hz => ?_)
        refine walk ?_
        have hcl : (Lib.compact xs).length = q := by rw [← show xs.toArray.toList = xs from rfl, ← hce]; simp; omega
        refine finB [ownS rInt 1 8 3 H0 (.slice (some ⟨b, 0, none⟩) q cap) (Lib.compact xs)] ?_ (hs := ?_)
        · exact ⟨rfl, rfl⟩
        · have hRc : RL rInt H0 ((Lib.compact xs).map I) (Lib.compact xs) := RL.mk1 (R := rInt) (val := fun x => .int .i64 x) (ok := fits) fun x hx => hfx x (compact_sub hx)
          have e4 : (dk.toList.map I ++ sp).take (0 + q * 1) ++ zs ++ (dk.toList.map I ++ sp).drop (0 + q * 1 + (xs.length - q) * 1) = (Lib.compact xs).map I ++ (zs ++ sp) := by
            rw [← show xs.toArray.toList = xs from rfl, ← hce]
            simp only [Nat.mul_one, Nat.zero_add]
            rw [List.take_append_of_le_length (by simp; omega), List.drop_append, List.drop_of_length_le (by simp; omega)]
            simp [hds, show q + (xs.length - q) - xs.length = 0 by omega, List.map_take]
          rw [e4]
          have hfin : Sub (row b 3 ((Lib.compact xs).map I ++ (zs ++ sp)) :: R) (ownS rInt 1 8 3 H0 (.slice (some ⟨b, 0, none⟩) (Lib.compact xs).length cap) (Lib.compact xs) :: R) :=
            (own_shut (b := b) (T := 3) (sz := 1) (xs := (Lib.compact xs).map I) (sp := zs ++ sp) (R := R) (m := (Lib.compact xs).length) (cap := cap) (by simp) (by omega) h2 (by simp at h4 hz ⊢; omega)).trans (ownS_mk hRc (by omega))
          rw [hcl] at hfin
          exact hfin
    · have hkp : Lib.keeps xs.toArray k = true := Lib.keeps_pos he
      refine walk ?_
      refine out_next hL (k + 1) ⟨⟨by omega, by omega⟩, fun j hj => ?_⟩ (by omega)
      by_cases e : j = k
      · subst e; exact hkp
      · exact hk j (by omega)
  · clear hL
    have hkl : k = xs.length := by omega
    subst hkl
    refine walk ?_
    refine finB [ownS rInt 1 8 3 H0 (.slice (some ⟨b, 0, none⟩) xs.length cap) xs] ?_ (hs := ?_)
    · exact ⟨by rw [Lib.compact_all xs hk], rfl⟩
    · exact (own_shut (m := xs.length) (by simp) (by omega) h2 (by simpa using h4)).trans (ownS_mk hR hw)
abbrev stepTo (m : Map) (x c : Int) : Prop := freeC m c ∧ (c = x ∨ besideC m c x)
def cands (m : Map) (x : Int) : List Int := [x - m.W, x - 1, x, x + 1, x + m.W]
def nextC (m : Map) (x : Int) : List Int := (cands m x).filter fun c => decide (stepTo m x c)
def nextL (m : Map) (x : Int) : List Int := Lib.compact ((nextC m x).mergeSort fun x y => decide (x ≤ y))
theorem gNext_no {W0 : GW} {H : Heap} {p : Value} {m : Map} {x : Int} (h : rG W0 H p m) (hx : ¬ freeC m x) :
    Ct Tryd.prog 24 #[p, I x] W0 H [] (fun r H' B => r = nilS ∧ B = [] ∧ H' = H) := by
  refine Ct.go fun R => ?_
  refine walk ?_
  refine ops_pcall rfl rfl (gFree_spec h) ?_
  rw [decide_eq_false hx]
  refine walk ?_
  refine fin0 ?_
  exact ⟨rfl, rfl, rfl⟩
theorem wNx {p q : Prop} (hq : q) (h : Held q → p := by
    intro hq
    repeat (first
      | refine Go.Sx.ops_p rfl rfl ?_ | refine Go.Sx.ops_ld rfl rfl rfl ?_ | refine Go.Sx.ops_T rfl rfl ?_ | refine Go.Sx.ops_F rfl rfl ?_ | refine Go.Sx.ops_B rfl rfl ?_ | refine Go.Sx.ops_skip rfl ?_
      | refine Go.Sx.ops_gp rfl rfl ?_ | refine Go.Sx.ops_gB rfl rfl ?_ | refine Go.Sx.ops_gld rfl rfl rfl ?_
      | refine Go.Sx.ops_st rfl rfl rfl rfl ?_ | refine Go.Sx.ops_ldN rfl rfl rfl ?_ | refine Go.Sx.ops_ext rfl rfl rfl ?_ | refine Go.Sx.ops_bld rfl rfl ?_ | refine Go.Sx.ops_ldHz rfl rfl ‹Go.Sx.HRow _ _ 0 _› rfl ?_ | refine Go.Sx.ops_ldHNz rfl rfl ‹Go.Sx.HRow _ _ 0 _› rfl ?_ | refine Go.Sx.ops_ldH rfl rfl ‹Go.Sx.HRow _ _ _ _› rfl rfl ?_ | refine Go.Sx.ops_ldH0 rfl rfl ‹Go.Sx.HRow _ _ _ _› rfl ?_ | refine Go.Sx.ops_ix rfl rfl rfl ‹Go.Sx.SlR _ _ _ _ _› (by omega) ?_
      | refine Go.Sx.ops_gldH0 rfl rfl ‹Go.Sx.HRow _ _ 0 _› rfl ?_ | refine Go.Sx.ops_gldN rfl rfl rfl ?_ | refine Go.Sx.ops_gext rfl rfl rfl ?_ | refine Go.Sx.ops_gix rfl rfl rfl ‹Go.Sx.SlR _ _ _ _ _› (by intro hg; omega) ?_
      | refine Go.Sx.ops_gcall rfl rfl (fun hg => gFree_spec hg1) ?_
      | refine Go.Sx.ops_pcall rfl rfl (gFree_spec hg1) ?_
      | refine Go.Sx.ops_gcall rfl rfl (fun hg => gBeside_spec hg1) ?_
      | refine Go.Sx.ops_pcall rfl rfl (gBeside_spec hg1) ?_
      | refine Go.Sx.ops_nil ?_ | refine Go.Sx.ex_seq ?_ | refine Go.Sx.ex_reg ?_ | refine Go.Sx.out_seq ?_ | refine Go.Sx.ex_c rfl ?_ | refine Go.Sx.ex_sT ?_ | refine Go.Sx.ex_sF ?_ | refine Go.Sx.ex_blk ?_ | refine Go.Sx.out_blk ?_
      | refine Go.Sx.ex_skip ?_ | refine Go.Sx.ex_exit ?_ | refine Go.Sx.ex_ret ?_ | refine Go.Sx.out_eseq ?_ | refine Go.Sx.out_eblk ?_ | refine Go.Sx.out_ecut ?_ | refine Go.Sx.out_epass rfl ?_ | refine Go.Sx.out_rseq ?_ | refine Go.Sx.out_rblk ?_ | refine Go.Sx.out_rcut ?_
      | refine Go.Sx.ex_quiet (by decide +kernel) (fun _ _ _ _ _ h => h) ?_)
    exact hq.out) : p := h ⟨hq⟩
theorem filter_snoc {α : Type} {p : α → Bool} {l : List α} {x : α} : (l ++ [x]).filter p = if p x = true then l.filter p ++ [x] else l.filter p := by
  rw [List.filter_append]; cases h : p x <;> simp [h]
set_option maxHeartbeats 8000000 in
theorem gNext_yes {W0 : GW} {H : Heap} {p : Value} {m : Map} {x : Int} (h : rG W0 H p m) (hx : freeC m x) :
    Ct Tryd.prog 24 #[p, I x] W0 H [] (fun r H' B => B = [ownS rInt 1 8 3 H' r (nextL m x)]) := by
  refine Ct.go fun R => ?_
  refine walk ?_
  refine ops_pcall rfl rfl (gFree_spec h) ?_
  rw [decide_eq_true hx]
  have har := area h.good.1.1
  have hsd := h.good.1.1
  simp only [sidesM] at hsd
  have hxc := hx.2
  simp only [isC] at hxc
  have hg0 := h
  obtain ⟨⟨b, s, mb, mm, rfl, h1, h2, h3, h4⟩, hg, hfs⟩ := h
  refine walk ?_
  refine ex_any 22 [] ?_
  refine stepY 0 ?_; refine stepY 1 ?_; refine stepY 2 ?_; refine stepY 3 ?_; refine stepY 4 ?_; refine stepY 5 ?_; refine stepY 6 ?_; refine stepY 7 ?_; refine stepY 8 ?_; refine stepY 9 ?_; refine stepY 10 ?_; refine stepY 11 ?_; refine stepY 12 ?_; refine stepY 13 ?_; refine stepY 14 ?_; refine stepY 15 ?_; refine stepY 16 ?_; refine stepY 17 ?_; refine stepY 18 ?_
  refine stepY 21 ?_
  refine gny_bsN 19 rfl rfl rfl fun pb _ => ?_
  refine stepY 20 ?_
  refine any_rest rfl ?_
  refine ops_frzR .here fun H1 hl1 hr1 => ?_
  have hg1 := hg0.mono hl1
  have hcl : (cands m x).length = 5 := rfl
  have hfc : ∀ y ∈ cands m x, fits y := by intro y hy; simp only [cands, List.mem_cons, List.not_mem_nil, or_false] at hy; unfold fits; omega
  have hs5 : SlR rInt 1 H1 (.slice (some ⟨pb, 0, none⟩) 5 5) (cands m x) := slr_of_hrow (xs := cands m x) hr1 (RL.mk1 (R := rInt) (val := fun x => .int .i64 x) (ok := fits) (xs := cands m x) hfc) (by rw [hcl]; omega) (by omega)
  generalize hcd : cands m x = cl at *
  generalize (some (⟨pb, 0, none⟩ : Addr)) = bs at hs5 ⊢
  refine walk ?_
  refine ex_L (ownS_nil (R := rInt) (sz := 1) (w := 8) (T := 3) (H := H1) (base := none)) ?_
  refine ex_loop (σ := Nat × Value) (fun s => s.1 ≤ 5) (fun s => [(0, .pointer (some ⟨b, 0, none⟩)), (1, I x), (5, s.2), (31, .slice bs 5 5), (32, I 5), (33, I s.1)]) (fun _ => H1) (fun s => ownS rInt 1 8 3 H1 s.2 ((cl.take s.1).filter fun c => decide (stepTo m x c)) :: R) (fun s => 5 - s.1) (0, nilS) (Nat.zero_le _) fun ⟨k, v⟩ hk0 K hL => ?_
  simp only at hk0
  dsimp only
  refine walk ?_
  refine ex_if rfl (fun hk => ?_) (fun hk => ?_)
  · have hk1 : k < cl.length := by omega
    refine wNx ?_
    refine ex_if rfl (fun hq => ?_) (fun hq => ?_)
    · refine walk ?_
      have hls : ((cl.take k).filter fun c => decide (stepTo m x c)).length ≤ 5 := Nat.le_trans (List.length_filter_le _ _) (by simp; omega)
      refine ops_app1 (y := cl[k]) rfl rfl rfl ⟨rfl, hfc _ (List.getElem_mem _)⟩ (by simp only [cap47]; omega) fun d1 e1 => ?_
      refine walk ?_
      refine out_next hL (k + 1, _) (by simp only; omega) (hs := ?_)
      dsimp only
      rw [List.take_succ_eq_append_getElem hk1, filter_snoc, if_pos (by simpa using hq)]
      exact Sub.refl _
    · refine walk ?_
      refine out_next hL (k + 1, v) (by simp only; omega) (hs := ?_)
      dsimp only
      rw [List.take_succ_eq_append_getElem hk1, filter_snoc, if_neg (by simpa using hq)]
      exact Sub.refl _
  · clear hL
    obtain rfl : k = 5 := by omega
    rw [List.take_of_length_le (by omega)]
    refine walk ?_
    refine ops_call rfl rfl (sortI_spec (H0 := H1) (T := 3) (v := v) (xs := cl.filter fun c => decide (stepTo m x c)) (Nat.le_trans (List.length_filter_le _ _) (by omega))) fun r H2 B hl ⟨er, eB, eH⟩ => ?_
    subst er eB eH
    refine walk ?_
    refine ops_call rfl rfl (compactI_spec (H0 := H2) (v := v) (xs := (cl.filter fun c => decide (stepTo m x c)).mergeSort fun x y => decide (x ≤ y))) fun r H3 B hl ⟨eB, eH⟩ => ?_
    subst eB eH
    refine walk ?_
    refine finB [ownS rInt 1 8 3 H3 r (nextL m x)] ?_ (hs := ?_)
    · rfl
    · unfold nextL nextC; rw [hcd]; exact Sub.refl _
theorem beside_symm {m : Map} {a b : Int} : besideC m a b ↔ besideC m b a := by
  simp only [besideC, adj]
  constructor <;> rintro ⟨⟨h1, h2⟩, h3⟩ <;> exact ⟨⟨h2, h1⟩, by omega⟩
theorem xy_eq {m : Map} (h : sidesM m) {c : Int} (hc : isC m c) : c = c.tdiv m.W * m.W + c.tmod m.W := (Int.tdiv_mul_add_tmod c m.W).symm
theorem mem_nextL {m : Map} (hs : sidesM m) {x b : Int} (hx : freeC m x) : b ∈ nextL m x ↔ nearC m x b := by
  unfold nextL
  rw [mem_compact, List.mem_mergeSort]
  unfold nextC
  rw [List.mem_filter, decide_eq_true_eq]
  constructor
  · rintro ⟨_, h1, h2⟩
    refine ⟨⟨hx, h1⟩, ?_⟩
    rcases h2 with h2 | h2
    · exact .inl h2.symm
    · exact .inr (beside_symm.1 h2)
  · rintro ⟨⟨_, h1⟩, h2⟩
    refine ⟨?_, h1, ?_⟩
    · simp only [cands, List.mem_cons, List.not_mem_nil, or_false]
      rcases h2 with h2 | h2
      · omega
      · obtain ⟨⟨ha, hb⟩, hadj⟩ := h2
        have e1 := xy_eq hs ha
        have e2 := xy_eq hs hb
        simp only [adj] at hadj
        rcases hadj with ⟨h3, h4 | h4⟩ | ⟨h3, h4 | h4⟩
        · have : x.tdiv m.W = b.tdiv m.W + 1 := by omega
          rw [this, Int.add_mul] at e1; omega
        · have : b.tdiv m.W = x.tdiv m.W + 1 := by omega
          rw [this, Int.add_mul] at e2; omega
        · have : x.tdiv m.W = b.tdiv m.W := by omega
          rw [this] at e1; omega
        · have : x.tdiv m.W = b.tdiv m.W := by omega
          rw [this] at e1; omega
    · rcases h2 with h2 | h2
      · exact .inl h2.symm
      · exact .inr (beside_symm.1 h2)
set_option maxHeartbeats 4000000 in
theorem map_spec {W0 : GW} {H : Heap} {p : Value} {m : Map} (h : rG W0 H p m) :
    Ct Tryd.prog 20 #[p] W0 H [] (fun r H' B => ∃ s, r = .agg (m.cv s).toArray ∧ B = [ownS rInt 1 8 3 H s m.Blocked] ∧ H' = H) := by
  refine Ct.go fun R => ?_
  obtain ⟨⟨b, s, mb, mm, rfl, h1, h2, h3, h4⟩, hg, hfs⟩ := h
  obtain ⟨b0, c0, rfl, _, _⟩ := h2.1.shape
  refine walk ?_
  refine ops_alloc rfl fun p2 _ => ?_
  refine walk ?_
  have h1' : HRow H b 0 [I m.W, I m.H, I m.Shards, .slice b0 m.Blocked.length c0] := (HRow.app (cs := [I m.W, I m.H, I m.Shards, .slice b0 m.Blocked.length c0]) (ds := [.map (some mb)]) h1).1
  refine ops_ldNH rfl rfl h1' rfl ?_
  refine ops_alloc rfl fun p3 _ => ?_
  refine walk ?_
  refine ops_call rfl rfl (cloneI_spec h2) fun r1 H1 B hl1 ⟨eB, eH⟩ => ?_
  subst eB eH
  refine walk ?_
  refine ops_shape r1 fun d1 e1 e _ _ _ => ?_
  subst e
  refine walk ?_
  refine finB [ownS rInt 1 8 3 H1 (.slice d1 m.Blocked.length e1) m.Blocked] ?_
  exact ⟨_, rfl, rfl, rfl⟩
def inC (m : Map) (x y : Int) : Prop := ((0 ≤ x ∧ x < m.W) ∧ 0 ≤ y) ∧ y < m.H
instance {m : Map} {x y : Int} : Decidable (inC m x y) := by unfold inC; infer_instance
theorem lt_ext : ∀ {xs ys : List Int}, xs.Pairwise (· < ·) → ys.Pairwise (· < ·) → (∀ b, b ∈ xs ↔ b ∈ ys) → xs = ys
  | [], [], _, _, _ => rfl
  | [], y :: ys, _, _, h => by have := (h y).2 (by simp); cases this
  | x :: xs, [], _, _, h => by have := (h x).1 (by simp); cases this
  | x :: xs, y :: ys, hx, hy, h => by
    rw [List.pairwise_cons] at hx hy
    have e : x = y := by
      have h1 := (h x).1 (by simp)
      have h2 := (h y).2 (by simp)
      rcases List.mem_cons.1 h1 with h1 | h1
      · exact h1
      · rcases List.mem_cons.1 h2 with h2 | h2
        · exact h2.symm
        · have := hy.1 x h1; have := hx.1 y h2; omega
    subst e
    rw [lt_ext hx.2 hy.2 fun b => ?_]
    constructor
    · intro hb
      rcases List.mem_cons.1 ((h b).1 (List.mem_cons_of_mem _ hb)) with e | e
      · subst e; have := hx.1 b hb; omega
      · exact e
    · intro hb
      rcases List.mem_cons.1 ((h b).2 (List.mem_cons_of_mem _ hb)) with e | e
      · subst e; have := hy.1 b hb; omega
      · exact e
theorem compact_lt {zs : List Int} (h : zs.Pairwise (· ≤ ·)) : (Lib.compact zs).Pairwise (· < ·) := by
  unfold Lib.compact Lib.compactUpTo
  rw [List.pairwise_map, List.pairwise_filter]
  refine List.Pairwise.imp_of_mem (fun {i j} hi hj hij _ hk => ?_) List.pairwise_lt_range
  rw [List.mem_range] at hi hj
  have hle : ∀ {a b : Nat} (hb : b < zs.length), a ≤ b → zs.toArray[a]! ≤ zs.toArray[b]! := fun {a b} hb hab => by
    rw [getElem!_pos zs.toArray a (by simp; omega), getElem!_pos zs.toArray b (by simpa using hb)]
    simp only [List.getElem_toArray]
    rcases Nat.eq_or_lt_of_le hab with e | e
    · subst e; exact Int.le_refl _
    · exact List.pairwise_iff_getElem.1 h a b (by omega) hb e
  unfold Lib.keeps at hk
  have hk := of_decide_eq_true hk
  have h1 := hle (a := i) (b := j - 1) (by omega) (by omega)
  have h2 := hle (a := j - 1) (b := j) (by omega) (by omega)
  rcases hk with hk | hk
  · omega
  · omega
theorem nextL_lt {m : Map} {x : Int} : (nextL m x).Pairwise (· < ·) := by
  unfold nextL
  refine compact_lt ?_
  have h := List.pairwise_mergeSort (le := fun x y : Int => decide (x ≤ y)) (fun a b c h1 h2 => by simp at *; omega) (fun a b => by simp; omega) (nextC m x)
  exact h.imp fun h => of_decide_eq_true h
def nextU (m : Map) (x : Int) (k : Nat) : List Int := ((List.range k).map fun i : Nat => (i : Int)).filter fun b => decide (freeC m x ∧ stepTo m x b)
def nextR (m : Map) (x : Int) : List Int := nextU m x (m.W * m.H).toNat
theorem nextR_lt {m : Map} {x : Int} : (nextR m x).Pairwise (· < ·) := by
  unfold nextR nextU
  refine List.Pairwise.filter _ ?_
  rw [List.pairwise_map]
  exact List.pairwise_lt_range.imp fun h => by omega
theorem mem_nextR {m : Map} {x b : Int} : b ∈ nextR m x ↔ nearC m x b := by
  unfold nextR nextU
  rw [List.mem_filter, decide_eq_true_eq, List.mem_map]
  constructor
  · rintro ⟨⟨i, hi, rfl⟩, hx, hf, h⟩
    refine ⟨⟨hx, hf⟩, ?_⟩
    rcases h with h | h
    · exact .inl h.symm
    · exact .inr (beside_symm.1 h)
  · rintro ⟨⟨hx, hf⟩, h⟩
    have hc := hf.2
    simp only [isC] at hc
    refine ⟨⟨b.toNat, ?_, by omega⟩, hx, hf, ?_⟩
    · rw [List.mem_range]; omega
    · rcases h with h | h
      · exact .inl h.symm
      · exact .inr (beside_symm.1 h)
theorem next_eq {m : Map} (hs : sidesM m) {x : Int} (hx : freeC m x) : nextL m x = nextR m x :=
  lt_ext nextL_lt nextR_lt fun b => by rw [mem_nextL hs hx, mem_nextR]
theorem nextR_no {m : Map} {x : Int} (hx : ¬ freeC m x) : nextR m x = [] := by
  unfold nextR nextU
  rw [List.filter_eq_nil_iff]
  intro b _ h
  exact hx (of_decide_eq_true h).1
end Go.Proofs.YtafhinjggdknjaaDoor
