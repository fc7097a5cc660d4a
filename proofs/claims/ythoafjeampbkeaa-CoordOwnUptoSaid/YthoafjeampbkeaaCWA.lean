/- Works with lists that stay owned: the program's own, the law's own, spoil. -/
import Derived.Test.YthoafjeampbkeaaCUV
import Derived.Test.YthoafjeampbkeaaKD
set_option linter.unusedVariables false
set_option linter.unusedSimpArgs false
namespace Go.Proofs.Ythoafjeampbkeaa
open Go Go.Sx Go.Proofs
theorem EL.weaken {κ ν : Type} {ek : κ → Value} {RV RV' : Go.Sx.Rd ν} {ag : Bool} {H H' : Heap} : ∀ {es : List MapEntry} {m : List (κ × ν)}, (∀ q ∈ m, ∀ cs, RV H cs q.2 → RV' H' cs q.2) → EL ek RV ag H es m → EL ek RV' ag H' es m
  | [], [], _, _ => trivial
  | e :: es, (k, v) :: m, h, ⟨a, ⟨cs, b, c⟩, d⟩ => ⟨a, ⟨cs, b, h (k, v) (by simp) cs c⟩, EL.weaken (fun q hq => h q (by simp [hq])) d⟩
  | [], _ :: _, _, h => h.elim
  | _ :: _, [], _, h => h.elim
theorem mapO_weaken {κ ν : Type} [DecidableEq κ] {ek : κ → Value} {RV RV' : Go.Sx.Rd ν} {ag : Bool} {H H' : Heap} {b : Nat} {m : List (κ × ν)} (h : ∀ q ∈ m, ∀ cs, RV H cs q.2 → RV' H' cs q.2) : ∀ x, mapO ek RV ag H b m x → mapO ek RV' ag H' b m x :=
  fun x ⟨es, c, a, e⟩ => ⟨es, c, { el := EL.weaken h a.el, nodup := a.nodup, rise := a.rise, lt := a.lt }, e⟩
/-- a work's cells alone -/
def rC : Rd CW := fun H cs v => cs = v.1 ∧ cs.length = 3 ∧ cs.all (·.oneCell') = true
instance : RdOk rC 3 := ⟨fun h => h.2.1, fun h => h.2.2, fun hl h => h⟩
instance : RVal rC true (fun v => .agg v.1.toArray) := ⟨fun ⟨e, _⟩ => by subst e; rfl⟩
theorem sub_head {A B : HProp} {L : List HProp} (f : ∀ x, A x → B x) : Sub (A :: L) (B :: L) := fun h ⟨h1, h2, a, r⟩ => ⟨h1, h2, f _ a, r⟩
theorem RL.weak {α : Type} {R R' : Sx.Rd α} {H H' : Heap} : ∀ {xs : List α} {cs : List Value}, (∀ x ∈ xs, ∀ c, R H c x → R' H' c x) → RL R H cs xs → RL R' H' cs xs
  | [], _, _, h => h
  | x :: xs, cs, hw, ⟨a, b, e, h1, h2⟩ => ⟨a, b, e, hw x (List.mem_cons_self ..) a h1, RL.weak (fun y hy => hw y (List.mem_cons_of_mem _ hy)) h2⟩
theorem bigL_weak {ι : Type} {A A' : ι → HProp} (hA : ∀ x h, A x h → A' x h) : ∀ {l : List ι} h, bigL A l h → bigL A' l h
  | [], h, hb => hb
  | x :: l, h, ⟨a1, a2, x1, y1⟩ => ⟨a1, a2, hA _ _ x1, bigL_weak hA (l := l) _ y1.1, y1.2⟩
theorem slr_weak {α : Type} {R R' : Sx.Rd α} {sz : Nat} [RdOk R sz] [RdOk R' sz] {H : Heap} {v : Value} {xs : List α} (hw : ∀ x ∈ xs, ∀ c, R H c x → R' H c x) (h : SlR R sz H v xs) : SlR R' sz H v xs := by
  obtain ⟨cs, a, b⟩ := h
  exact ⟨cs, a, RL.weak hw b⟩
theorem tsA {L L' : List HProp} (h : Sub L L' := by (repeat (first | exact Sub.refl _ | exact Sub.nil _ | (apply sub_pick; (repeat (first | exact Has.here | apply Has.there)); skip) | apply Sub.drop))) : Sub L L' := h
theorem RL.map {α β : Type} {R : Sx.Rd α} {R' : Sx.Rd β} {f : α → β} {H H' : Heap} : ∀ {xs : List α} {cs : List Value}, (∀ x ∈ xs, ∀ c, R H c x → R' H' c (f x)) → RL R H cs xs → RL R' H' cs (xs.map f)
  | [], _, _, h => h
  | x :: xs, cs, hw, ⟨a, b, e, h1, h2⟩ => ⟨a, b, e, hw x (List.mem_cons_self ..) a h1, RL.map (fun y hy => hw y (List.mem_cons_of_mem _ hy)) h2⟩
theorem slr_map {α β : Type} {R : Sx.Rd α} {R' : Sx.Rd β} {f : α → β} {sz : Nat} {H : Heap} {v : Value} {xs : List α} (hw : ∀ x ∈ xs, ∀ c, R H c x → R' H c (f x)) (h : SlR R sz H v xs) : SlR R' sz H v (xs.map f) := by
  obtain ⟨cs, a, b⟩ := h
  exact ⟨cs, by rw [List.length_map]; exact a, RL.map hw b⟩
/-- a work, where its lists lie -/
structure WV where
  w : Work
  a : Option Addr × Nat
  b : Option Addr × Nat
abbrev WV.cv (v : WV) : List Value := v.w.cv (.slice v.a.1 v.w.Take.length v.a.2) (.slice v.b.1 v.w.Drop.length v.b.2)
def rWV : Rd WV := fun _ cs v => cs = v.cv
instance : RdOk rWV 3 := ⟨fun h => by subst h; rfl, fun h => by subst h; rfl, fun hl h => h⟩
instance : RdFlat rWV := ⟨fun h => h⟩
/-- its lists, owned -/
def ownW (v : WV) : HProp := big [ownS rStr 1 16 9 Heap.empty (.slice v.a.1 v.w.Take.length v.a.2) v.w.Take, ownS rStr 1 16 9 Heap.empty (.slice v.b.1 v.w.Drop.length v.b.2) v.w.Drop]
theorem ownW_open {v : WV} {L : List HProp} : Sub (ownW v :: L) (ownS rStr 1 16 9 Heap.empty (.slice v.a.1 v.w.Take.length v.a.2) v.w.Take :: ownS rStr 1 16 9 Heap.empty (.slice v.b.1 v.w.Drop.length v.b.2) v.w.Drop :: L) :=
  Sub.trans (sub_open (B := [_, _]) fun _ h => h) (Sub.refl _)
theorem ownW_shut {H1 H2 : Heap} {v : WV} {L : List HProp} : Sub (ownS rStr 1 16 9 H1 (.slice v.a.1 v.w.Take.length v.a.2) v.w.Take :: ownS rStr 1 16 9 H2 (.slice v.b.1 v.w.Drop.length v.b.2) v.w.Drop :: L) (ownW v :: L) :=
  Sub.trans (sub_flat H1 Heap.empty) (Sub.trans (Sub.cons (sub_flat H2 Heap.empty)) (sub_fold (B := [ownS rStr 1 16 9 Heap.empty (.slice v.a.1 v.w.Take.length v.a.2) v.w.Take, ownS rStr 1 16 9 Heap.empty (.slice v.b.1 v.w.Drop.length v.b.2) v.w.Drop]) (Sub.refl _) fun h hb => hb))
theorem ownW_reads {v : WV} {D H : Heap} (h : ownW v D) (hl : D.le H) : SlB rStr 1 16 H (.slice v.a.1 v.w.Take.length v.a.2) v.w.Take ∧ SlB rStr 1 16 H (.slice v.b.1 v.w.Drop.length v.b.2) v.w.Drop := by
  obtain ⟨c1, c2, o1, ⟨d1, d2, o2, _, _, ld1, _⟩, _, lc1, lc2⟩ := h
  exact ⟨ownS_reads o1 (empty_le _) (lc1.trans hl), ownS_reads o2 (empty_le _) (ld1.trans (lc2.trans hl))⟩
theorem ownWs_reads {H : Heap} : ∀ {ys : List WV} {D : Heap}, bigL ownW ys D → D.le H → ∀ y ∈ ys, SlB rStr 1 16 H (.slice y.a.1 y.w.Take.length y.a.2) y.w.Take ∧ SlB rStr 1 16 H (.slice y.b.1 y.w.Drop.length y.b.2) y.w.Drop
  | [], _, _, _, y, hy => by cases hy
  | x :: ys, D, ⟨a1, a2, x1, y1, _, le1, le2⟩, hl, y, hy => by
    rcases List.mem_cons.1 hy with rfl | hy
    · exact ownW_reads x1 (le1.trans hl)
    · exact ownWs_reads (ys := ys) y1 (le2.trans hl) y hy
theorem bigL_snoc {ι : Type} {A : ι → HProp} {l : List ι} {x : ι} {L : List HProp} : Sub (A x :: bigL A l :: L) (bigL A (l ++ [x]) :: L) := by
  have h := bigL_in (A := A) (l1 := l) (x := x) (l2 := []) (L := L)
  rwa [List.append_nil] at h
set_option maxHeartbeats 4000000 in
theorem spoil_spec {W0 : World} {H HS1 HS2 : Heap} {rob : Int} {d1 d2 : Option Addr} {e1 e2 : Nat} {t dd : List ByteArray} :
    Ct Try.prog 13 #[.agg #[I rob, .slice d1 t.length e1, .slice d2 dd.length e2]] W0 H [ownS rStr 1 16 9 HS1 (.slice d1 t.length e1) t, ownS rStr 1 16 9 HS2 (.slice d2 dd.length e2) dd] (fun r H' B => B = [] ∧ H' = H) := by
  refine Ct.go (vs := [.agg #[I rob, .slice d1 t.length e1, .slice d2 dd.length e2]]) fun R => ?_
  have hq63 : (⟨#[63]⟩ : ByteArray).size ≤ cap47 := by decide
  have hq33 : (⟨#[33]⟩ : ByteArray).size ≤ cap47 := by decide
  refine ex_shape (.slice d1 t.length e1) fun _ _ e1' hf1 hg1 _ => ?_
  cases e1'
  refine ex_shape (.slice d2 dd.length e2) fun _ _ e2' hf2 hg2 _ => ?_
  cases e2'
  refine walk ?_
  refine ops_box rfl rfl fun p1 _ => ?_
  refine walk ?_
  refine ex_loop (σ := Nat × List ByteArray) (fun u => u.1 ≤ t.length ∧ u.2.length = t.length) (fun u => [(1, .pointer (some ⟨p1, 0, none⟩)), (6, I t.length), (7, I u.1)]) (fun _ => H) (fun u => ownS rStr 1 16 9 HS1 (.slice d1 t.length e1) u.2 :: ownS rStr 1 16 9 HS2 (.slice d2 dd.length e2) dd :: row p1 41 [I rob, .slice d1 t.length e1, .slice d2 dd.length e2] :: R) (fun u => t.length - u.1) (0, t) ⟨Nat.zero_le _, rfl⟩ fun ⟨i, ys⟩ ⟨hi0, hyl⟩ K hL => ?_
  simp only at hi0 hyl
  dsimp only
  refine walk ?_
  refine ex_if rfl (fun hi => ?_) (fun hi => ?_)
  · have hi1 : i < ys.length := by omega
    refine walk ?_
    refine ops_stS (y' := (⟨#[63]⟩ : ByteArray)) rfl rfl rfl ⟨rfl, hq63⟩ hi1 ?_
    refine walk ?_
    exact out_next hL (i + 1, ys.set i ⟨#[63]⟩) ⟨by simp only; omega, by simp only [List.length_set]; exact hyl⟩
  clear hL
  refine walk ?_
  refine ex_loop (σ := Nat × List ByteArray) (fun u => u.1 ≤ dd.length ∧ u.2.length = dd.length) (fun u => [(1, .pointer (some ⟨p1, 0, none⟩)), (17, I dd.length), (18, I u.1)]) (fun _ => H) (fun u => ownS rStr 1 16 9 HS2 (.slice d2 dd.length e2) u.2 :: row p1 41 [I rob, .slice d1 t.length e1, .slice d2 dd.length e2] :: R) (fun u => dd.length - u.1) (0, dd) ⟨Nat.zero_le _, rfl⟩ fun ⟨i, ys⟩ ⟨hi0, hyl⟩ K hL => ?_
  simp only at hi0 hyl
  dsimp only
  refine walk ?_
  refine ex_if rfl (fun hi => ?_) (fun hi => ?_)
  · have hi1 : i < ys.length := by omega
    refine walk ?_
    refine ops_stS (y' := (⟨#[33]⟩ : ByteArray)) rfl rfl rfl ⟨rfl, hq33⟩ hi1 ?_
    refine walk ?_
    exact out_next hL (i + 1, ys.set i ⟨#[33]⟩) ⟨by simp only; omega, by simp only [List.length_set]; exact hyl⟩
  clear hL
  refine walk ?_
  refine endn0 ?_
  exact ⟨rfl, rfl⟩
theorem cOwnO_spec {W0 : World} {H : Heap} {c : List Value} {m : Work} (h0 : rWork H c m) :
    Ct Try.prog 26 #[.agg c.toArray] W0 H [] (fun r H' B => ∃ v : WV, v.w = m ∧ r = .agg v.cv.toArray ∧ B = [ownW v] ∧ H' = H) := by
  refine Ct.go fun R => ?_
  obtain ⟨s1, s2, rfl, f1, h1, h2⟩ := h0
  refine walk ?_
  refine ops_box rfl rfl fun p1 _ => ?_
  refine ops_alloc rfl fun p2 _ => ?_
  refine walk ?_
  refine ex_any 7 [row p1 41 (m.cv s1 s2)] ?_
  refine stepY 0 ?_; refine stepY 1 ?_
  refine stepY 3 ?_; refine stepY 4 ?_
  refine any_call 2 rfl rfl (cloneT_spec h1) fun r1 H1 B hl1 ⟨eB, eH⟩ => ?_
  subst eB eH
  refine ⟨(by (repeat (first | exact Sub.refl _ | exact Sub.nil _ | (apply sub_pick; (repeat (first | exact Has.here | apply Has.there)); skip) | apply Sub.drop))), ?_⟩
  refine stepY 6 ?_
  refine any_call 5 rfl rfl (cloneT_spec h2) fun r2 H2 B hl2 ⟨eB, eH⟩ => ?_
  subst eB eH
  refine ⟨(by (repeat (first | exact Sub.refl _ | exact Sub.nil _ | (apply sub_pick; (repeat (first | exact Has.here | apply Has.there)); skip) | apply Sub.drop))), ?_⟩
  refine any_rest rfl ?_
  refine ops_shape r1 fun d1 e1 e _ _ _ => ?_
  subst e
  refine ops_shape r2 fun d2 e2 e _ _ _ => ?_
  subst e
  refine walk ?_
  refine finB [ownW ⟨m, (d1, e1), (d2, e2)⟩] ?_ (hs := ?_)
  · exact ⟨⟨m, (d1, e1), (d2, e2)⟩, rfl, rfl, rfl, rfl⟩
  · refine Sub.trans ?_ (ownW_shut (H1 := H2) (H2 := H2) (v := ⟨m, (d1, e1), (d2, e2)⟩))
    (repeat (first | exact Sub.refl _ | exact Sub.nil _ | (apply sub_pick; (repeat (first | exact Has.here | apply Has.there)); skip) | apply Sub.drop))
end Go.Proofs.Ythoafjeampbkeaa
