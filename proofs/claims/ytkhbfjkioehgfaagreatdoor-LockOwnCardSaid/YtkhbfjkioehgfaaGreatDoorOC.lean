/- The table without what its lists hold; Prepare and Prepared with lists that stay owned. -/
import Derived.Test.YtkhbfjkioehgfaaGreatDoorMT
set_option linter.unusedVariables false
set_option linter.unusedSimpArgs false
namespace Go.Proofs.YtkhbfjkioehgfaaGreatDoor
open Go Go.Sx Go.Proofs
theorem EL.weaken {κ ν : Type} {ek : κ → Value} {RV RV' : Go.Sx.Rd ν} {ag : Bool} {H H' : Heap} : ∀ {es : List MapEntry} {m : List (κ × ν)}, (∀ q ∈ m, ∀ cs, RV H cs q.2 → RV' H' cs q.2) → EL ek RV ag H es m → EL ek RV' ag H' es m
  | [], [], _, _ => trivial
  | e :: es, (k, v) :: m, h, ⟨a, ⟨cs, b, c⟩, d⟩ => ⟨a, ⟨cs, b, h (k, v) (by simp) cs c⟩, EL.weaken (fun q hq => h q (by simp [hq])) d⟩
  | [], _ :: _, _, h => h.elim
  | _ :: _, [], _, h => h.elim
theorem mapO_weaken {κ ν : Type} [DecidableEq κ] {ek : κ → Value} {RV RV' : Go.Sx.Rd ν} {ag : Bool} {H H' : Heap} {b : Nat} {m : List (κ × ν)} (h : ∀ q ∈ m, ∀ cs, RV H cs q.2 → RV' H' cs q.2) : ∀ x, mapO ek RV ag H b m x → mapO ek RV' ag H' b m x :=
  fun x ⟨es, c, a, e⟩ => ⟨es, c, { el := EL.weaken h a.el, nodup := a.nodup, rise := a.rise, lt := a.lt }, e⟩
/-- a work's cells alone -/
def rC : Rd CW := fun H cs v => cs = v.1 ∧ cs.length = 3 ∧ cs.all (·.oneCell') = true
instance : RdOk rC 3 := ⟨fun h => h.2.1, fun h => h.2.2, fun hl h => h⟩
instance : RVal rC true (fun v => .agg v.1.toArray) := ⟨fun ⟨e, _⟩ => by subst e; rfl⟩
abbrev hRaw (hb : Nat) (s : TS) : HProp := mapO Value.string rInt false Heap.empty hb s.held
abbrev lRaw (lb : Nat) (s : TS) : HProp := mapO Value.string rTxn true Heap.empty lb s.locked
abbrev wRaw (wb : Nat) (s : TS) : HProp := mapO ek3 rC true Heap.empty wb s.works
def tRaw (p : Nat) (s : TS) : HProp := fun h => ∃ hb lb wb, big [tRow p hb lb wb, hRaw hb s, lRaw lb s, wRaw wb s] h
/-- the works' lists, read -/
def WR (H : Heap) (s : TS) : Prop := ∀ q ∈ s.works, rWork H q.2.1 q.2.2
theorem raw_fold {p hb lb wb : Nat} {s : TS} {L : List HProp} : Sub (tRow p hb lb wb :: hRaw hb s :: lRaw lb s :: wRaw wb s :: L) (tRaw p s :: L) :=
  sub_fold (B := [tRow p hb lb wb, hRaw hb s, lRaw lb s, wRaw wb s]) (Sub.refl _) fun h hb' => ⟨hb, lb, wb, hb'⟩
theorem big4 {A B C D A' B' C' D' : HProp} (h1 : ∀ x, A x → A' x) (h2 : ∀ x, B x → B' x) (h3 : ∀ x, C x → C' x) (h4 : ∀ x, D x → D' x) : ∀ h, big [A, B, C, D] h → big [A', B', C', D'] h := fun h hbig => by
  obtain ⟨a1, a2, x1, ⟨b1, b2, x2, ⟨c1, c2, x3, ⟨d1, d2, x4, y4⟩, y3⟩, y2⟩, y1⟩ := hbig
  exact ⟨a1, a2, h1 _ x1, ⟨b1, b2, h2 _ x2, ⟨c1, c2, h3 _ x3, ⟨d1, d2, h4 _ x4, y4⟩, y3⟩, y2⟩, y1⟩
theorem w_raw {H : Heap} {wb : Nat} {s : TS} : ∀ x, wMap H wb s x → wRaw wb s x := mapO_weaken (RV := rCW) (RV' := rC) fun q _ cs h => by
  obtain ⟨e, h⟩ := (h : cs = q.2.1 ∧ rWork H cs q.2.2)
  exact ⟨e, RdOk.len (R := rWork) h, RdOk.one (R := rWork) h⟩
theorem raw_w {H : Heap} {wb : Nat} {s : TS} (hw : WR H s) : ∀ x, wRaw wb s x → wMap H wb s x := mapO_weaken (RV := rC) (RV' := rCW) fun q hq cs h => by
  obtain ⟨e, _⟩ := (h : cs = q.2.1 ∧ _)
  subst e
  exact ⟨rfl, hw q hq⟩
theorem h_flat {H H' : Heap} {hb : Nat} {l : List (ByteArray × Int)} : ∀ x, mapO Value.string rInt false H hb l x → mapO Value.string rInt false H' hb l x := mapO_weaken (RV := rInt) (RV' := rInt) fun q _ cs h => h
theorem l_flat {H H' : Heap} {hb : Nat} {l : List (ByteArray × Txn)} : ∀ x, mapO Value.string rTxn true H hb l x → mapO Value.string rTxn true H' hb l x := mapO_weaken (RV := rTxn) (RV' := rTxn) fun q _ cs h => h
theorem tab_raw {H : Heap} {p : Nat} {s : TS} : ∀ h, tabO H p s h → tRaw p s h := fun h ⟨hb, lb, wb, hbig⟩ =>
  ⟨hb, lb, wb, big4 (fun _ h => h) h_flat l_flat w_raw h hbig⟩
theorem raw_tab {H : Heap} {p : Nat} {s : TS} (hw : WR H s) : ∀ h, tRaw p s h → tabO H p s h := fun h ⟨hb, lb, wb, hbig⟩ =>
  ⟨hb, lb, wb, big4 (fun _ h => h) h_flat l_flat (raw_w hw) h hbig⟩
theorem tab_know {H : Heap} {p : Nat} {s : TS} {h : Heap} (ht : tabO H p s h) : WR H s := by
  obtain ⟨hb, lb, wb, a1, a2, x1, ⟨b1, b2, x2, ⟨c1, c2, x3, ⟨d1, d2, x4, y4⟩, y3⟩, y2⟩, y1⟩ := ht
  intro q hq
  obtain ⟨cs, e, hr⟩ := (mapO_know x4).1 q hq
  subst e
  exact hr
theorem WR.mono {H H' : Heap} {s : TS} (h : WR H s) (hl : H.le H') : WR H' s := fun q hq => RdOk.mono (R := rWork) hl (h q hq)
/-- a work with lists of its own, owned -/
theorem ownO_spec {W0 : World} {H : Heap} {c : List Value} {m : Work} (h0 : rWork H c m) :
    Ct Tryz.prog 28 #[.agg c.toArray] W0 H [] (fun r H' B => ∃ d1 e1 d2 e2, r = .agg (m.cv (.slice d1 m.Take.length e1) (.slice d2 m.Drop.length e2)).toArray ∧ B = [ownS rStr 1 16 9 H' (.slice d1 m.Take.length e1) m.Take, ownS rStr 1 16 9 H' (.slice d2 m.Drop.length e2) m.Drop] ∧ H' = H) := by
  refine Ct.go fun R => ?_
  obtain ⟨s1, s2, rfl, f1, h1, h2⟩ := h0
  refine walk ?_
  refine ops_box rfl rfl fun p1 _ => ?_
  refine ops_alloc rfl fun p2 _ => ?_
  refine walk ?_
  refine ex_any 7 [row p1 30 (m.cv s1 s2)] ?_
  (first | refine gny_p 0 rfl rfl rfl ?_ | refine gny_ld 0 rfl rfl rfl rfl ?_ | refine gny_ldH 0 rfl rfl rfl ‹HRow _ _ 0 _› rfl ?_ | refine gny_T 0 rfl rfl rfl ?_ | refine gny_F 0 rfl rfl rfl ?_ | refine gny_B 0 rfl rfl rfl ?_ | refine gny_skip 0 rfl rfl ?_ | refine gny_sp 0 rfl rfl rfl ?_ | refine gny_sB 0 rfl rfl rfl ?_ | refine gny_sld 0 rfl rfl rfl rfl ?_ | refine gny_sldH 0 rfl rfl rfl ‹HRow _ _ 0 _› rfl ?_ | refine gny_ldN 0 rfl rfl rfl rfl ?_ | refine gny_bld 0 rfl rfl rfl ?_); (first | refine gny_p 1 rfl rfl rfl ?_ | refine gny_ld 1 rfl rfl rfl rfl ?_ | refine gny_ldH 1 rfl rfl rfl ‹HRow _ _ 0 _› rfl ?_ | refine gny_T 1 rfl rfl rfl ?_ | refine gny_F 1 rfl rfl rfl ?_ | refine gny_B 1 rfl rfl rfl ?_ | refine gny_skip 1 rfl rfl ?_ | refine gny_sp 1 rfl rfl rfl ?_ | refine gny_sB 1 rfl rfl rfl ?_ | refine gny_sld 1 rfl rfl rfl rfl ?_ | refine gny_sldH 1 rfl rfl rfl ‹HRow _ _ 0 _› rfl ?_ | refine gny_ldN 1 rfl rfl rfl rfl ?_ | refine gny_bld 1 rfl rfl rfl ?_)
  (first | refine gny_p 3 rfl rfl rfl ?_ | refine gny_ld 3 rfl rfl rfl rfl ?_ | refine gny_ldH 3 rfl rfl rfl ‹HRow _ _ 0 _› rfl ?_ | refine gny_T 3 rfl rfl rfl ?_ | refine gny_F 3 rfl rfl rfl ?_ | refine gny_B 3 rfl rfl rfl ?_ | refine gny_skip 3 rfl rfl ?_ | refine gny_sp 3 rfl rfl rfl ?_ | refine gny_sB 3 rfl rfl rfl ?_ | refine gny_sld 3 rfl rfl rfl rfl ?_ | refine gny_sldH 3 rfl rfl rfl ‹HRow _ _ 0 _› rfl ?_ | refine gny_ldN 3 rfl rfl rfl rfl ?_ | refine gny_bld 3 rfl rfl rfl ?_); (first | refine gny_p 4 rfl rfl rfl ?_ | refine gny_ld 4 rfl rfl rfl rfl ?_ | refine gny_ldH 4 rfl rfl rfl ‹HRow _ _ 0 _› rfl ?_ | refine gny_T 4 rfl rfl rfl ?_ | refine gny_F 4 rfl rfl rfl ?_ | refine gny_B 4 rfl rfl rfl ?_ | refine gny_skip 4 rfl rfl ?_ | refine gny_sp 4 rfl rfl rfl ?_ | refine gny_sB 4 rfl rfl rfl ?_ | refine gny_sld 4 rfl rfl rfl rfl ?_ | refine gny_sldH 4 rfl rfl rfl ‹HRow _ _ 0 _› rfl ?_ | refine gny_ldN 4 rfl rfl rfl rfl ?_ | refine gny_bld 4 rfl rfl rfl ?_)
  refine any_call 2 rfl rfl (cloneT_spec h1) fun r1 H1 B hl1 ⟨eB, eH⟩ => ?_
  subst eB eH
  refine ⟨(by (repeat (first | exact Sub.refl _ | exact Sub.nil _ | (apply sub_pick; (repeat (first | exact Has.here | apply Has.there)); skip) | apply Sub.drop))), ?_⟩
  (first | refine gny_p 6 rfl rfl rfl ?_ | refine gny_ld 6 rfl rfl rfl rfl ?_ | refine gny_ldH 6 rfl rfl rfl ‹HRow _ _ 0 _› rfl ?_ | refine gny_T 6 rfl rfl rfl ?_ | refine gny_F 6 rfl rfl rfl ?_ | refine gny_B 6 rfl rfl rfl ?_ | refine gny_skip 6 rfl rfl ?_ | refine gny_sp 6 rfl rfl rfl ?_ | refine gny_sB 6 rfl rfl rfl ?_ | refine gny_sld 6 rfl rfl rfl rfl ?_ | refine gny_sldH 6 rfl rfl rfl ‹HRow _ _ 0 _› rfl ?_ | refine gny_ldN 6 rfl rfl rfl rfl ?_ | refine gny_bld 6 rfl rfl rfl ?_)
  refine any_call 5 rfl rfl (cloneT_spec h2) fun r2 H2 B hl2 ⟨eB, eH⟩ => ?_
  subst eB eH
  refine ⟨(by (repeat (first | exact Sub.refl _ | exact Sub.nil _ | (apply sub_pick; (repeat (first | exact Has.here | apply Has.there)); skip) | apply Sub.drop))), ?_⟩
  refine any_rest rfl ?_
  refine ops_shape r1 fun d1 e1 e _ _ _ => ?_
  subst e
  refine ops_shape r2 fun d2 e2 e _ _ _ => ?_
  subst e
  refine walk ?_
  refine finB [ownS rStr 1 16 9 H2 (.slice d1 m.Take.length e1) m.Take, ownS rStr 1 16 9 H2 (.slice d2 m.Drop.length e2) m.Drop] ?_
  exact ⟨d1, e1, d2, e2, rfl, rfl, rfl⟩
/-- the law's own, owned -/
theorem lawOwnO_spec {W0 : World} {H : Heap} {cw : List Value} {w : Work} (hw : rWork H cw w) :
    Ct Tryz.prog 11 #[.agg cw.toArray] W0 H [] (fun r H' B => ∃ d1 e1 d2 e2, r = .agg ((clipW w).cv (.slice d1 (clipW w).Take.length e1) (.slice d2 (clipW w).Drop.length e2)).toArray ∧ B = [ownS rStr 1 16 9 H' (.slice d1 (clipW w).Take.length e1) (clipW w).Take, ownS rStr 1 16 9 H' (.slice d2 (clipW w).Drop.length e2) (clipW w).Drop] ∧ H' = H) := by
  refine Ct.go (vs := [.agg cw.toArray]) fun R => ?_
  obtain ⟨s1, s2, rfl, hrob, hs1, hs2⟩ := hw
  obtain ⟨b1, c1, rfl, hc1, hd1⟩ := hs1.1.shape
  obtain ⟨b2, c2, rfl, hc2, hd2⟩ := hs2.1.shape
  have hk1 : (min (w.Take.length : Int) 40).toNat = (clipW w).Take.length := by simp [clipW]; omega
  have hk2 : (min (w.Drop.length : Int) 40).toNat = (clipW w).Drop.length := by simp [clipW]; omega
  have ht1 := slr_take (j := (clipW w).Take.length) hs1.1 (by simp [clipW]; omega)
  have ht2 := slr_take (j := (clipW w).Drop.length) hs2.1 (by simp [clipW]; omega)
  rw [show w.Take.take (clipW w).Take.length = (clipW w).Take by simp [clipW, List.take_take]] at ht1
  rw [show w.Drop.take (clipW w).Drop.length = (clipW w).Drop by simp [clipW, List.take_take]] at ht2
  refine walk ?_
  refine ops_box rfl rfl fun p1 _ => ?_
  refine ops_alloc rfl fun p2 _ => ?_
  refine walk ?_
  refine ops_mk0 (w := 16) rStr rfl fun b3 => ?_
  refine walk ?_
  rw [hk1]
  refine ops_appS rfl rfl ht1 (by simp [clipW, cap47]; omega) fun d1 e1 => ?_
  simp only [List.length_nil, Nat.zero_add, List.nil_append]
  refine walk ?_
  refine ops_mk0 (w := 16) rStr rfl fun b4 => ?_
  refine walk ?_
  rw [hk2]
  refine ops_appS rfl rfl ht2 (by simp [clipW, cap47]; omega) fun d2 e2 => ?_
  simp only [List.length_nil, Nat.zero_add, List.nil_append]
  refine walk ?_
  refine finB [ownS rStr 1 16 9 H (.slice d1 (clipW w).Take.length e1) (clipW w).Take, ownS rStr 1 16 9 H (.slice d2 (clipW w).Drop.length e2) (clipW w).Drop] ?_
  exact ⟨d1, e1, d2, e2, rfl, rfl, rfl⟩
set_option maxHeartbeats 4000000 in
theorem prepareO_spec {W0 : World} {H : Heap} {p : Nat} {s : TS} {x : Txn} {w : Work} {cw : List Value} (hx : fits x.Node ∧ fits x.Life ∧ fits x.Count) (hw : rWork H cw w) (hwn : (w.ks.length) * 16 ≤ cap47) (hsh : ∀ q ∈ s.works, ∃ G, rWork G q.2.1 q.2.2) :
    Ct Tryz.prog 10 #[.pointer (some ⟨p, 0, none⟩), .agg x.cv.toArray, .agg cw.toArray] W0 H [tRaw p s] (fun r H' B => r = I (prepE s x w) ∧ ((prepE s x w ≠ 0 ∧ B = [tRaw p s]) ∨ (prepE s x w = 0 ∧ ∃ d1 e1 d2 e2, B = [tRaw p (prepT s x w (w.cv (.slice d1 w.Take.length e1) (.slice d2 w.Drop.length e2))), ownS rStr 1 16 9 H' (.slice d1 w.Take.length e1) w.Take, ownS rStr 1 16 9 H' (.slice d2 w.Drop.length e2) w.Drop]))) := by
  refine Ct.go (vs := [.pointer (some ⟨p, 0, none⟩), .agg x.cv.toArray, .agg cw.toArray]) fun R => ?_
  obtain ⟨s1, s2, rfl, hrob, hs1, hs2⟩ := hw
  obtain ⟨b1, c1, rfl, hc1, hd1⟩ := hs1.1.shape
  obtain ⟨b2, c2, rfl, hc2, hd2⟩ := hs2.1.shape
  obtain ⟨x1, x2, x3⟩ := x
  dsimp only at hx
  refine ex_open (A := tRaw p s) (σ := Nat × Nat × Nat) (B := fun a => [tRow p a.1 a.2.1 a.2.2, hRaw a.1 s, lRaw a.2.1 s, wRaw a.2.2 s]) (p := fun _ => True) (by repeat (first | exact Has.here | apply Has.there)) (fun h ⟨hb, lb, wb, hbig⟩ => ⟨(hb, lb, wb), trivial, hbig⟩) fun ⟨hb, lb, wb⟩ _ => ?_
  dsimp only
  have hrd : ∃ G, rWork G ((mget (x1, x2, x3) s.works).getD zCW).1 ((mget (x1, x2, x3) s.works).getD zCW).2 := by
    cases hg : mget (x1, x2, x3) s.works with
    | none => exact ⟨H, zCW_reads.2⟩
    | some v => exact hsh ((x1, x2, x3), v) (mget_mem hg)
  obtain ⟨G, hrd⟩ := hrd
  refine walk ?_
  refine ops_box rfl rfl fun p4 _ => ?_
  refine ops_box rfl rfl fun p5 _ => ?_
  refine walk ?_
  refine ex_any 11 [wRaw wb s, tRow p hb lb wb, row p4 27 [I x1, I x2, I x3]] ?_
  (first | refine gny_p 0 rfl rfl rfl ?_ | refine gny_ld 0 rfl rfl rfl rfl ?_ | refine gny_ldH 0 rfl rfl rfl ‹HRow _ _ 0 _› rfl ?_ | refine gny_T 0 rfl rfl rfl ?_ | refine gny_F 0 rfl rfl rfl ?_ | refine gny_B 0 rfl rfl rfl ?_ | refine gny_skip 0 rfl rfl ?_ | refine gny_sp 0 rfl rfl rfl ?_ | refine gny_sB 0 rfl rfl rfl ?_ | refine gny_sld 0 rfl rfl rfl rfl ?_ | refine gny_sldH 0 rfl rfl rfl ‹HRow _ _ 0 _› rfl ?_ | refine gny_ldN 0 rfl rfl rfl rfl ?_ | refine gny_bld 0 rfl rfl rfl ?_); (first | refine gny_p 1 rfl rfl rfl ?_ | refine gny_ld 1 rfl rfl rfl rfl ?_ | refine gny_ldH 1 rfl rfl rfl ‹HRow _ _ 0 _› rfl ?_ | refine gny_T 1 rfl rfl rfl ?_ | refine gny_F 1 rfl rfl rfl ?_ | refine gny_B 1 rfl rfl rfl ?_ | refine gny_skip 1 rfl rfl ?_ | refine gny_sp 1 rfl rfl rfl ?_ | refine gny_sB 1 rfl rfl rfl ?_ | refine gny_sld 1 rfl rfl rfl rfl ?_ | refine gny_sldH 1 rfl rfl rfl ‹HRow _ _ 0 _› rfl ?_ | refine gny_ldN 1 rfl rfl rfl rfl ?_ | refine gny_bld 1 rfl rfl rfl ?_); (first | refine gny_p 2 rfl rfl rfl ?_ | refine gny_ld 2 rfl rfl rfl rfl ?_ | refine gny_ldH 2 rfl rfl rfl ‹HRow _ _ 0 _› rfl ?_ | refine gny_T 2 rfl rfl rfl ?_ | refine gny_F 2 rfl rfl rfl ?_ | refine gny_B 2 rfl rfl rfl ?_ | refine gny_skip 2 rfl rfl ?_ | refine gny_sp 2 rfl rfl rfl ?_ | refine gny_sB 2 rfl rfl rfl ?_ | refine gny_sld 2 rfl rfl rfl rfl ?_ | refine gny_sldH 2 rfl rfl rfl ‹HRow _ _ 0 _› rfl ?_ | refine gny_ldN 2 rfl rfl rfl rfl ?_ | refine gny_bld 2 rfl rfl rfl ?_); (first | refine gny_p 3 rfl rfl rfl ?_ | refine gny_ld 3 rfl rfl rfl rfl ?_ | refine gny_ldH 3 rfl rfl rfl ‹HRow _ _ 0 _› rfl ?_ | refine gny_T 3 rfl rfl rfl ?_ | refine gny_F 3 rfl rfl rfl ?_ | refine gny_B 3 rfl rfl rfl ?_ | refine gny_skip 3 rfl rfl ?_ | refine gny_sp 3 rfl rfl rfl ?_ | refine gny_sB 3 rfl rfl rfl ?_ | refine gny_sld 3 rfl rfl rfl rfl ?_ | refine gny_sldH 3 rfl rfl rfl ‹HRow _ _ 0 _› rfl ?_ | refine gny_ldN 3 rfl rfl rfl rfl ?_ | refine gny_bld 3 rfl rfl rfl ?_); (first | refine gny_p 4 rfl rfl rfl ?_ | refine gny_ld 4 rfl rfl rfl rfl ?_ | refine gny_ldH 4 rfl rfl rfl ‹HRow _ _ 0 _› rfl ?_ | refine gny_T 4 rfl rfl rfl ?_ | refine gny_F 4 rfl rfl rfl ?_ | refine gny_B 4 rfl rfl rfl ?_ | refine gny_skip 4 rfl rfl ?_ | refine gny_sp 4 rfl rfl rfl ?_ | refine gny_sB 4 rfl rfl rfl ?_ | refine gny_sld 4 rfl rfl rfl rfl ?_ | refine gny_sldH 4 rfl rfl rfl ‹HRow _ _ 0 _› rfl ?_ | refine gny_ldN 4 rfl rfl rfl rfl ?_ | refine gny_bld 4 rfl rfl rfl ?_)
  refine gny_lkA2 (RV := rC) (ag := true) (z := zCW) 5 rfl rfl rfl (by repeat (first | exact Has.here | apply Has.there)) ?_
  obtain ⟨q1, q2, hq, _, hq1, hq2⟩ := hrd
  obtain ⟨g1, f1, rfl, _, _⟩ := hq1.1.shape
  obtain ⟨g2, f2, rfl, _, _⟩ := hq2.1.shape
  rw [hq]
  (first | refine gny_p 6 rfl rfl rfl ?_ | refine gny_ld 6 rfl rfl rfl rfl ?_ | refine gny_ldH 6 rfl rfl rfl ‹HRow _ _ 0 _› rfl ?_ | refine gny_T 6 rfl rfl rfl ?_ | refine gny_F 6 rfl rfl rfl ?_ | refine gny_B 6 rfl rfl rfl ?_ | refine gny_skip 6 rfl rfl ?_ | refine gny_sp 6 rfl rfl rfl ?_ | refine gny_sB 6 rfl rfl rfl ?_ | refine gny_sld 6 rfl rfl rfl rfl ?_ | refine gny_sldH 6 rfl rfl rfl ‹HRow _ _ 0 _› rfl ?_ | refine gny_ldN 6 rfl rfl rfl rfl ?_ | refine gny_bld 6 rfl rfl rfl ?_)
  refine gny_ext 7 rfl rfl rfl rfl ?_
  refine gny_ext 8 rfl rfl rfl rfl ?_
  refine gny_alloc 9 rfl rfl fun p7 _ => ?_
  refine any_sta 10 rfl rfl rfl rfl (by simp) rfl ⟨(by (repeat (first | exact Sub.refl _ | exact Sub.nil _ | (apply sub_pick; (repeat (first | exact Has.here | apply Has.there)); skip) | apply Sub.drop))), ?_⟩
  refine any_rest rfl ?_
  rw [show (mget (x1, x2, x3) s.works).isSome = decide ((mget (x1, x2, x3) s.works).isSome = true) by simp]
  refine walk ?_
  refine ex_if rfl (fun hin => ?_) (fun hin => ?_)
  · refine walk ?_
    refine finB [tRaw p s] ?_ (hs := ?_)
    · have hE : prepE s ⟨x1, x2, x3⟩ w = 2 := if_pos hin
      exact ⟨by rw [hE], .inl ⟨by rw [hE]; decide, rfl⟩⟩
    · refine Sub.trans ?_ (raw_fold (hb := hb) (lb := lb) (wb := wb))
      (repeat (first | exact Sub.refl _ | exact Sub.nil _ | (apply sub_pick; (repeat (first | exact Has.here | apply Has.there)); skip) | apply Sub.drop))
  refine walk ?_
  refine ops_bsN rfl rfl fun pb _ => ?_
  refine ops_frzR .here fun H1 hl1 hr1 => ?_
  have hsr : SlR (rSl rStr 1 16) 1 H1 (.slice (some ⟨pb, 0, none⟩) 2 2) [w.Take, w.Drop] := slr_of_hrow (R := rSl rStr 1 16) (xs := [w.Take, w.Drop]) hr1 (show RL (rSl rStr 1 16) H1 [.slice b1 w.Take.length c1, .slice b2 w.Drop.length c2] [w.Take, w.Drop] from ⟨[_], [_], rfl, ⟨_, rfl, hs1.mono hl1⟩, ⟨[_], [], rfl, ⟨_, rfl, hs2.mono hl1⟩, rfl⟩⟩) (by simp) (by omega)
  have hwn' : (w.Take.length + w.Drop.length) * 16 ≤ cap47 := by simpa [Work.ks] using hwn
  have hwn2 : w.Take.length + w.Drop.length ≤ 8796093022208 := by have := hwn'; simp only [cap47] at this; omega
  have hcat := concat_spec (W0 := W0) hsr (by simpa [sumLen] using hwn')
  rw [show [w.Take, w.Drop].flatten = w.ks by simp [Work.ks]] at hcat
  refine ops_call rfl rfl hcat fun r1 H2 B hl2 ⟨eB, eH⟩ => ?_
  subst eB eH
  refine walk ?_
  refine ops_call rfl rfl (sortS_ct (W0 := W0) (H := H2) (H0 := H2) (v := r1) (xs := w.ks)) fun r2 H3 B hl3 ⟨er, eB, eH⟩ => ?_
  subst er eB eH
  refine walk ?_
  refine ex_any 10 [row p5 30 (w.cv (.slice b1 w.Take.length c1) (.slice b2 w.Drop.length c2))] ?_
  (first | refine gny_p 0 rfl rfl rfl ?_ | refine gny_ld 0 rfl rfl rfl rfl ?_ | refine gny_ldH 0 rfl rfl rfl ‹HRow _ _ 0 _› rfl ?_ | refine gny_T 0 rfl rfl rfl ?_ | refine gny_F 0 rfl rfl rfl ?_ | refine gny_B 0 rfl rfl rfl ?_ | refine gny_skip 0 rfl rfl ?_ | refine gny_sp 0 rfl rfl rfl ?_ | refine gny_sB 0 rfl rfl rfl ?_ | refine gny_sld 0 rfl rfl rfl rfl ?_ | refine gny_sldH 0 rfl rfl rfl ‹HRow _ _ 0 _› rfl ?_ | refine gny_ldN 0 rfl rfl rfl rfl ?_ | refine gny_bld 0 rfl rfl rfl ?_)
  (first | refine gny_p 3 rfl rfl rfl ?_ | refine gny_ld 3 rfl rfl rfl rfl ?_ | refine gny_ldH 3 rfl rfl rfl ‹HRow _ _ 0 _› rfl ?_ | refine gny_T 3 rfl rfl rfl ?_ | refine gny_F 3 rfl rfl rfl ?_ | refine gny_B 3 rfl rfl rfl ?_ | refine gny_skip 3 rfl rfl ?_ | refine gny_sp 3 rfl rfl rfl ?_ | refine gny_sB 3 rfl rfl rfl ?_ | refine gny_sld 3 rfl rfl rfl rfl ?_ | refine gny_sldH 3 rfl rfl rfl ‹HRow _ _ 0 _› rfl ?_ | refine gny_ldN 3 rfl rfl rfl rfl ?_ | refine gny_bld 3 rfl rfl rfl ?_); (first | refine gny_p 4 rfl rfl rfl ?_ | refine gny_ld 4 rfl rfl rfl rfl ?_ | refine gny_ldH 4 rfl rfl rfl ‹HRow _ _ 0 _› rfl ?_ | refine gny_T 4 rfl rfl rfl ?_ | refine gny_F 4 rfl rfl rfl ?_ | refine gny_B 4 rfl rfl rfl ?_ | refine gny_skip 4 rfl rfl ?_ | refine gny_sp 4 rfl rfl rfl ?_ | refine gny_sB 4 rfl rfl rfl ?_ | refine gny_sld 4 rfl rfl rfl rfl ?_ | refine gny_sldH 4 rfl rfl rfl ‹HRow _ _ 0 _› rfl ?_ | refine gny_ldN 4 rfl rfl rfl rfl ?_ | refine gny_bld 4 rfl rfl rfl ?_); (first | refine gny_p 5 rfl rfl rfl ?_ | refine gny_ld 5 rfl rfl rfl rfl ?_ | refine gny_ldH 5 rfl rfl rfl ‹HRow _ _ 0 _› rfl ?_ | refine gny_T 5 rfl rfl rfl ?_ | refine gny_F 5 rfl rfl rfl ?_ | refine gny_B 5 rfl rfl rfl ?_ | refine gny_skip 5 rfl rfl ?_ | refine gny_sp 5 rfl rfl rfl ?_ | refine gny_sB 5 rfl rfl rfl ?_ | refine gny_sld 5 rfl rfl rfl rfl ?_ | refine gny_sldH 5 rfl rfl rfl ‹HRow _ _ 0 _› rfl ?_ | refine gny_ldN 5 rfl rfl rfl rfl ?_ | refine gny_bld 5 rfl rfl rfl ?_); (first | refine gny_p 6 rfl rfl rfl ?_ | refine gny_ld 6 rfl rfl rfl rfl ?_ | refine gny_ldH 6 rfl rfl rfl ‹HRow _ _ 0 _› rfl ?_ | refine gny_T 6 rfl rfl rfl ?_ | refine gny_F 6 rfl rfl rfl ?_ | refine gny_B 6 rfl rfl rfl ?_ | refine gny_skip 6 rfl rfl ?_ | refine gny_sp 6 rfl rfl rfl ?_ | refine gny_sB 6 rfl rfl rfl ?_ | refine gny_sld 6 rfl rfl rfl rfl ?_ | refine gny_sldH 6 rfl rfl rfl ‹HRow _ _ 0 _› rfl ?_ | refine gny_ldN 6 rfl rfl rfl rfl ?_ | refine gny_bld 6 rfl rfl rfl ?_); (first | refine gny_p 7 rfl rfl rfl ?_ | refine gny_ld 7 rfl rfl rfl rfl ?_ | refine gny_ldH 7 rfl rfl rfl ‹HRow _ _ 0 _› rfl ?_ | refine gny_T 7 rfl rfl rfl ?_ | refine gny_F 7 rfl rfl rfl ?_ | refine gny_B 7 rfl rfl rfl ?_ | refine gny_skip 7 rfl rfl ?_ | refine gny_sp 7 rfl rfl rfl ?_ | refine gny_sB 7 rfl rfl rfl ?_ | refine gny_sld 7 rfl rfl rfl rfl ?_ | refine gny_sldH 7 rfl rfl rfl ‹HRow _ _ 0 _› rfl ?_ | refine gny_ldN 7 rfl rfl rfl rfl ?_ | refine gny_bld 7 rfl rfl rfl ?_); (first | refine gny_p 8 rfl rfl rfl ?_ | refine gny_ld 8 rfl rfl rfl rfl ?_ | refine gny_ldH 8 rfl rfl rfl ‹HRow _ _ 0 _› rfl ?_ | refine gny_T 8 rfl rfl rfl ?_ | refine gny_F 8 rfl rfl rfl ?_ | refine gny_B 8 rfl rfl rfl ?_ | refine gny_skip 8 rfl rfl ?_ | refine gny_sp 8 rfl rfl rfl ?_ | refine gny_sB 8 rfl rfl rfl ?_ | refine gny_sld 8 rfl rfl rfl rfl ?_ | refine gny_sldH 8 rfl rfl rfl ‹HRow _ _ 0 _› rfl ?_ | refine gny_ldN 8 rfl rfl rfl rfl ?_ | refine gny_bld 8 rfl rfl rfl ?_); (first | refine gny_p 9 rfl rfl rfl ?_ | refine gny_ld 9 rfl rfl rfl rfl ?_ | refine gny_ldH 9 rfl rfl rfl ‹HRow _ _ 0 _› rfl ?_ | refine gny_T 9 rfl rfl rfl ?_ | refine gny_F 9 rfl rfl rfl ?_ | refine gny_B 9 rfl rfl rfl ?_ | refine gny_skip 9 rfl rfl ?_ | refine gny_sp 9 rfl rfl rfl ?_ | refine gny_sB 9 rfl rfl rfl ?_ | refine gny_sld 9 rfl rfl rfl rfl ?_ | refine gny_sldH 9 rfl rfl rfl ‹HRow _ _ 0 _› rfl ?_ | refine gny_ldN 9 rfl rfl rfl rfl ?_ | refine gny_bld 9 rfl rfl rfl ?_)
  refine gny_call 1 rfl rfl rfl (compactS_ct (W0 := W0) (H := H3) (H0 := H3) (v := r1) (xs := sortT w.ks)) fun r3 H4 B hl4 ⟨eB, eH⟩ => ?_
  subst eB eH
  refine ⟨(by (repeat (first | exact Sub.refl _ | exact Sub.nil _ | (apply sub_pick; (repeat (first | exact Has.here | apply Has.there)); skip) | apply Sub.drop))), ?_⟩
  refine any_shape r3 fun d3 e3 e _ _ _ => ?_
  subst e
  (first | refine gny_p 2 rfl rfl rfl ?_ | refine gny_ld 2 rfl rfl rfl rfl ?_ | refine gny_ldH 2 rfl rfl rfl ‹HRow _ _ 0 _› rfl ?_ | refine gny_T 2 rfl rfl rfl ?_ | refine gny_F 2 rfl rfl rfl ?_ | refine gny_B 2 rfl rfl rfl ?_ | refine gny_skip 2 rfl rfl ?_ | refine gny_sp 2 rfl rfl rfl ?_ | refine gny_sB 2 rfl rfl rfl ?_ | refine gny_sld 2 rfl rfl rfl rfl ?_ | refine gny_sldH 2 rfl rfl rfl ‹HRow _ _ 0 _› rfl ?_ | refine gny_ldN 2 rfl rfl rfl rfl ?_ | refine gny_bld 2 rfl rfl rfl ?_)
  refine any_rest rfl ?_
  refine walk ?_
  have hdup : (((compT (sortT w.ks)).length : Nat) : Int) < (w.Take.length : Nat) + (w.Drop.length : Nat) ↔ dupT w.ks := by
    unfold dupT
    rw [show w.ks.length = w.Take.length + w.Drop.length by simp [Work.ks]]
    omega
  refine ex_if rfl (fun hdu => ?_) (fun hdu => ?_)
  · rw [hdup] at hdu
    refine walk ?_
    refine finB [tRaw p s] ?_ (hs := ?_)
    · have hE : prepE s ⟨x1, x2, x3⟩ w = 1 := (if_neg hin).trans (if_pos hdu)
      exact ⟨by rw [hE], .inl ⟨by rw [hE]; decide, rfl⟩⟩
    · refine Sub.trans ?_ (raw_fold (hb := hb) (lb := lb) (wb := wb))
      (repeat (first | exact Sub.refl _ | exact Sub.nil _ | (apply sub_pick; (repeat (first | exact Has.here | apply Has.there)); skip) | apply Sub.drop))
  rw [hdup] at hdu
  refine walk ?_
  refine ops_bsN rfl rfl fun pc _ => ?_
  refine ops_frzR .here fun H5 hl5 hr5 => ?_
  have hl05 : H.le H5 := hl1.trans (hl2.trans (hl3.trans (hl4.trans hl5)))
  have hsr5 : SlR (rSl rStr 1 16) 1 H5 (.slice (some ⟨pc, 0, none⟩) 2 2) [w.Take, w.Drop] := slr_of_hrow (R := rSl rStr 1 16) (xs := [w.Take, w.Drop]) hr5 (show RL (rSl rStr 1 16) H5 [.slice b1 w.Take.length c1, .slice b2 w.Drop.length c2] [w.Take, w.Drop] from ⟨[_], [_], rfl, ⟨_, rfl, hs1.mono hl05⟩, ⟨[_], [], rfl, ⟨_, rfl, hs2.mono hl05⟩, rfl⟩⟩) (by simp) (by omega)
  have hcat5 := concat_spec (W0 := W0) hsr5 (by simpa [sumLen] using hwn')
  rw [show [w.Take, w.Drop].flatten = w.ks by simp [Work.ks]] at hcat5
  refine ops_call rfl rfl hcat5 fun r5 H6 B hl6 ⟨eB, eH⟩ => ?_
  subst eB eH
  refine ops_freeze r5 fun H7 hl7 hsl => ?_
  obtain ⟨bk, ck, rfl, hck, hdk⟩ := hsl.1.shape
  refine walk ?_
  refine ex_loop (σ := Nat) (fun k => k ≤ w.ks.length) (fun k => [(0, .pointer (some ⟨p, 0, none⟩)), (4, .pointer (some ⟨p4, 0, none⟩)), (5, .pointer (some ⟨p5, 0, none⟩)), (10, .bool (decide (wayT s w 0 (w.ks.take k) = true))), (53, .slice bk w.ks.length ck), (54, I w.ks.length), (55, I k)]) (fun _ => H7)
    (fun _ => row p5 30 (w.cv (.slice b1 w.Take.length c1) (.slice b2 w.Drop.length c2)) :: row p4 27 [I x1, I x2, I x3] :: tRow p hb lb wb :: hRaw hb s :: lRaw lb s :: wRaw wb s :: R) (fun k => w.ks.length - k) 0 (Nat.zero_le _) fun k hk0 K hL => ?_
  refine walk ?_
  refine ex_if rfl (fun hk => ?_) (fun hk => ?_)
  · have hk1 : k < w.ks.length := by omega
    have ht := List.take_succ_eq_append_getElem hk1
    have hwy := wayT_snoc (s := s) (w := w) (k := w.ks[k]) (l := w.ks.take k) (i := 0)
    rw [← ht, Nat.zero_add, List.length_take, Nat.min_eq_left hk0] at hwy
    refine walk ?_
    refine ops_ixp rfl rfl hsl.1 hk1 fun b o c hr hc => ?_
    obtain ⟨rfl, hsz⟩ := hc
    refine walk ?_
    refine ops_lkA2 (RV := rInt) (ag := false) (z := 0) rfl rfl (by repeat (first | exact Has.here | apply Has.there)) ?_
    refine walk ?_
    refine ops_lkA2 (RV := rTxn) (ag := true) (z := zTxn) rfl rfl (by repeat (first | exact Has.here | apply Has.there)) ?_
    refine walk ?_
    rw [show (mget w.ks[k] s.locked).isSome = decide ((mget w.ks[k] s.locked).isSome = true) by simp, show (mget w.ks[k] s.held).isSome = decide ((mget w.ks[k] s.held).isSome = true) by simp]
    refine ops_alloc rfl fun p15 _ => ?_
    refine walkG ?_
    have hd := bdec (p := (wayT s w 0 (w.ks.take k) = true ∧ ¬(mget w.ks[k] s.locked).isSome = true) ∧ ((w.Take.length : Int) ≤ (k : Int) ∨ ¬(mget w.ks[k] s.held).isSome = true)) (q := wayT s w 0 (w.ks.take (k + 1)) = true) (by
      rw [hwy]
      simp only [Bool.and_eq_true, Bool.or_eq_true, Bool.not_eq_true', decide_eq_true_eq, Bool.not_eq_true, Int.ofNat_le, and_assoc])
    rw [hd]
    exact out_next hL (k + 1) (by omega)
  clear hL
  obtain rfl : k = w.ks.length := by omega
  rw [List.take_length]
  refine walk ?_
  refine ex_if rfl (fun hfr => ?_) (fun hfr => ?_)
  · refine walk ?_
    refine finB [tRaw p s] ?_ (hs := ?_)
    · have hE : prepE s ⟨x1, x2, x3⟩ w = 140 := (if_neg hin).trans ((if_neg hdu).trans (if_neg hfr))
      exact ⟨by rw [hE], .inl ⟨by rw [hE]; decide, rfl⟩⟩
    · refine Sub.trans ?_ (raw_fold (hb := hb) (lb := lb) (wb := wb))
      (repeat (first | exact Sub.refl _ | exact Sub.nil _ | (apply sub_pick; (repeat (first | exact Has.here | apply Has.there)); skip) | apply Sub.drop))
  have hfr' : wayT s w 0 w.ks = true := by simpa using hfr
  have hE : prepE s ⟨x1, x2, x3⟩ w = 0 := (if_neg hin).trans ((if_neg hdu).trans (if_pos hfr'))
  refine walk ?_
  refine ex_any 7 [row p4 27 [I x1, I x2, I x3], row p5 30 (w.cv (.slice b1 w.Take.length c1) (.slice b2 w.Drop.length c2)), tRow p hb lb wb] ?_
  (first | refine gny_p 0 rfl rfl rfl ?_ | refine gny_ld 0 rfl rfl rfl rfl ?_ | refine gny_ldH 0 rfl rfl rfl ‹HRow _ _ 0 _› rfl ?_ | refine gny_T 0 rfl rfl rfl ?_ | refine gny_F 0 rfl rfl rfl ?_ | refine gny_B 0 rfl rfl rfl ?_ | refine gny_skip 0 rfl rfl ?_ | refine gny_sp 0 rfl rfl rfl ?_ | refine gny_sB 0 rfl rfl rfl ?_ | refine gny_sld 0 rfl rfl rfl rfl ?_ | refine gny_sldH 0 rfl rfl rfl ‹HRow _ _ 0 _› rfl ?_ | refine gny_ldN 0 rfl rfl rfl rfl ?_ | refine gny_bld 0 rfl rfl rfl ?_); (first | refine gny_p 1 rfl rfl rfl ?_ | refine gny_ld 1 rfl rfl rfl rfl ?_ | refine gny_ldH 1 rfl rfl rfl ‹HRow _ _ 0 _› rfl ?_ | refine gny_T 1 rfl rfl rfl ?_ | refine gny_F 1 rfl rfl rfl ?_ | refine gny_B 1 rfl rfl rfl ?_ | refine gny_skip 1 rfl rfl ?_ | refine gny_sp 1 rfl rfl rfl ?_ | refine gny_sB 1 rfl rfl rfl ?_ | refine gny_sld 1 rfl rfl rfl rfl ?_ | refine gny_sldH 1 rfl rfl rfl ‹HRow _ _ 0 _› rfl ?_ | refine gny_ldN 1 rfl rfl rfl rfl ?_ | refine gny_bld 1 rfl rfl rfl ?_); (first | refine gny_p 2 rfl rfl rfl ?_ | refine gny_ld 2 rfl rfl rfl rfl ?_ | refine gny_ldH 2 rfl rfl rfl ‹HRow _ _ 0 _› rfl ?_ | refine gny_T 2 rfl rfl rfl ?_ | refine gny_F 2 rfl rfl rfl ?_ | refine gny_B 2 rfl rfl rfl ?_ | refine gny_skip 2 rfl rfl ?_ | refine gny_sp 2 rfl rfl rfl ?_ | refine gny_sB 2 rfl rfl rfl ?_ | refine gny_sld 2 rfl rfl rfl rfl ?_ | refine gny_sldH 2 rfl rfl rfl ‹HRow _ _ 0 _› rfl ?_ | refine gny_ldN 2 rfl rfl rfl rfl ?_ | refine gny_bld 2 rfl rfl rfl ?_); (first | refine gny_p 3 rfl rfl rfl ?_ | refine gny_ld 3 rfl rfl rfl rfl ?_ | refine gny_ldH 3 rfl rfl rfl ‹HRow _ _ 0 _› rfl ?_ | refine gny_T 3 rfl rfl rfl ?_ | refine gny_F 3 rfl rfl rfl ?_ | refine gny_B 3 rfl rfl rfl ?_ | refine gny_skip 3 rfl rfl ?_ | refine gny_sp 3 rfl rfl rfl ?_ | refine gny_sB 3 rfl rfl rfl ?_ | refine gny_sld 3 rfl rfl rfl rfl ?_ | refine gny_sldH 3 rfl rfl rfl ‹HRow _ _ 0 _› rfl ?_ | refine gny_ldN 3 rfl rfl rfl rfl ?_ | refine gny_bld 3 rfl rfl rfl ?_); (first | refine gny_p 4 rfl rfl rfl ?_ | refine gny_ld 4 rfl rfl rfl rfl ?_ | refine gny_ldH 4 rfl rfl rfl ‹HRow _ _ 0 _› rfl ?_ | refine gny_T 4 rfl rfl rfl ?_ | refine gny_F 4 rfl rfl rfl ?_ | refine gny_B 4 rfl rfl rfl ?_ | refine gny_skip 4 rfl rfl ?_ | refine gny_sp 4 rfl rfl rfl ?_ | refine gny_sB 4 rfl rfl rfl ?_ | refine gny_sld 4 rfl rfl rfl rfl ?_ | refine gny_sldH 4 rfl rfl rfl ‹HRow _ _ 0 _› rfl ?_ | refine gny_ldN 4 rfl rfl rfl rfl ?_ | refine gny_bld 4 rfl rfl rfl ?_); (first | refine gny_p 5 rfl rfl rfl ?_ | refine gny_ld 5 rfl rfl rfl rfl ?_ | refine gny_ldH 5 rfl rfl rfl ‹HRow _ _ 0 _› rfl ?_ | refine gny_T 5 rfl rfl rfl ?_ | refine gny_F 5 rfl rfl rfl ?_ | refine gny_B 5 rfl rfl rfl ?_ | refine gny_skip 5 rfl rfl ?_ | refine gny_sp 5 rfl rfl rfl ?_ | refine gny_sB 5 rfl rfl rfl ?_ | refine gny_sld 5 rfl rfl rfl rfl ?_ | refine gny_sldH 5 rfl rfl rfl ‹HRow _ _ 0 _› rfl ?_ | refine gny_ldN 5 rfl rfl rfl rfl ?_ | refine gny_bld 5 rfl rfl rfl ?_)
  have hl07 : H.le H7 := hl05.trans (hl6.trans hl7)
  refine gny_call 6 rfl rfl rfl (ownO_spec (m := w) ⟨_, _, rfl, hrob, hs1.mono hl07, hs2.mono hl07⟩) fun r6 H8 B hl8 ⟨d1, e1, d2, e2, er, eB, eH⟩ => ?_
  subst er eB eH
  refine ⟨(by (repeat (first | exact Sub.refl _ | exact Sub.nil _ | (apply sub_pick; (repeat (first | exact Has.here | apply Has.there)); skip) | apply Sub.drop))), ?_⟩
  refine any_rest rfl ?_
  refine ops_update (RV := rC) (ag := true) (cs := w.cv (.slice d1 w.Take.length e1) (.slice d2 w.Drop.length e2)) (u := (w.cv (.slice d1 w.Take.length e1) (.slice d2 w.Drop.length e2), w)) rfl rfl ⟨rfl, rfl, rfl⟩ (by repeat (first | exact Has.here | apply Has.there)) ?_
  refine walk ?_
  refine ops_bsN rfl rfl fun pd _ => ?_
  refine ops_frzR .here fun H9 hl9 hr9 => ?_
  have hl09 : H.le H9 := hl07.trans hl9
  have hsr9 : SlR (rSl rStr 1 16) 1 H9 (.slice (some ⟨pd, 0, none⟩) 2 2) [w.Take, w.Drop] := slr_of_hrow (R := rSl rStr 1 16) (xs := [w.Take, w.Drop]) hr9 (show RL (rSl rStr 1 16) H9 [.slice b1 w.Take.length c1, .slice b2 w.Drop.length c2] [w.Take, w.Drop] from ⟨[_], [_], rfl, ⟨_, rfl, hs1.mono hl09⟩, ⟨[_], [], rfl, ⟨_, rfl, hs2.mono hl09⟩, rfl⟩⟩) (by simp) (by omega)
  have hcat9 := concat_spec (W0 := W0) hsr9 (by simpa [sumLen] using hwn')
  rw [show [w.Take, w.Drop].flatten = w.ks by simp [Work.ks]] at hcat9
  refine ops_call rfl rfl hcat9 fun r9 H10 B hl10 ⟨eB, eH⟩ => ?_
  subst eB eH
  refine ops_freeze r9 fun H11 hl11 hsm => ?_
  obtain ⟨bm, cm, rfl, hcm, hdm⟩ := hsm.1.shape
  refine walk ?_
  refine ex_loop (σ := Nat) (fun k => k ≤ w.ks.length) (fun k => [(0, .pointer (some ⟨p, 0, none⟩)), (4, .pointer (some ⟨p4, 0, none⟩)), (109, .slice bm w.ks.length cm), (110, I w.ks.length), (111, I k)]) (fun _ => H11)
    (fun k => mapO Value.string rTxn true Heap.empty lb (lockAll ⟨x1, x2, x3⟩ (w.ks.take k) s.locked) :: row p4 27 [I x1, I x2, I x3] :: tRow p hb lb wb :: mapO ek3 rC true Heap.empty wb (mset (x1, x2, x3) (w.cv (.slice d1 w.Take.length e1) (.slice d2 w.Drop.length e2), w) s.works) :: hRaw hb s :: ownS rStr 1 16 9 H8 (.slice d1 w.Take.length e1) w.Take :: ownS rStr 1 16 9 H8 (.slice d2 w.Drop.length e2) w.Drop :: R) (fun k => w.ks.length - k) 0 (Nat.zero_le _) fun k hk0 K hL => ?_
  refine walk ?_
  refine ex_if rfl (fun hk => ?_) (fun hk => ?_)
  · have hk1 : k < w.ks.length := by omega
    have ht := List.take_succ_eq_append_getElem hk1
    refine walk ?_
    refine ops_ixp rfl rfl hsm.1 hk1 fun b o c hr hc => ?_
    obtain ⟨rfl, hsz⟩ := hc
    refine walk ?_
    refine ex_any 6 [row p4 27 [I x1, I x2, I x3], tRow p hb lb wb] ?_
    (first | refine gny_p 0 rfl rfl rfl ?_ | refine gny_ld 0 rfl rfl rfl rfl ?_ | refine gny_ldH 0 rfl rfl rfl ‹HRow _ _ 0 _› rfl ?_ | refine gny_T 0 rfl rfl rfl ?_ | refine gny_F 0 rfl rfl rfl ?_ | refine gny_B 0 rfl rfl rfl ?_ | refine gny_skip 0 rfl rfl ?_ | refine gny_sp 0 rfl rfl rfl ?_ | refine gny_sB 0 rfl rfl rfl ?_ | refine gny_sld 0 rfl rfl rfl rfl ?_ | refine gny_sldH 0 rfl rfl rfl ‹HRow _ _ 0 _› rfl ?_ | refine gny_ldN 0 rfl rfl rfl rfl ?_ | refine gny_bld 0 rfl rfl rfl ?_); (first | refine gny_p 1 rfl rfl rfl ?_ | refine gny_ld 1 rfl rfl rfl rfl ?_ | refine gny_ldH 1 rfl rfl rfl ‹HRow _ _ 0 _› rfl ?_ | refine gny_T 1 rfl rfl rfl ?_ | refine gny_F 1 rfl rfl rfl ?_ | refine gny_B 1 rfl rfl rfl ?_ | refine gny_skip 1 rfl rfl ?_ | refine gny_sp 1 rfl rfl rfl ?_ | refine gny_sB 1 rfl rfl rfl ?_ | refine gny_sld 1 rfl rfl rfl rfl ?_ | refine gny_sldH 1 rfl rfl rfl ‹HRow _ _ 0 _› rfl ?_ | refine gny_ldN 1 rfl rfl rfl rfl ?_ | refine gny_bld 1 rfl rfl rfl ?_); (first | refine gny_p 2 rfl rfl rfl ?_ | refine gny_ld 2 rfl rfl rfl rfl ?_ | refine gny_ldH 2 rfl rfl rfl ‹HRow _ _ 0 _› rfl ?_ | refine gny_T 2 rfl rfl rfl ?_ | refine gny_F 2 rfl rfl rfl ?_ | refine gny_B 2 rfl rfl rfl ?_ | refine gny_skip 2 rfl rfl ?_ | refine gny_sp 2 rfl rfl rfl ?_ | refine gny_sB 2 rfl rfl rfl ?_ | refine gny_sld 2 rfl rfl rfl rfl ?_ | refine gny_sldH 2 rfl rfl rfl ‹HRow _ _ 0 _› rfl ?_ | refine gny_ldN 2 rfl rfl rfl rfl ?_ | refine gny_bld 2 rfl rfl rfl ?_); (first | refine gny_p 3 rfl rfl rfl ?_ | refine gny_ld 3 rfl rfl rfl rfl ?_ | refine gny_ldH 3 rfl rfl rfl ‹HRow _ _ 0 _› rfl ?_ | refine gny_T 3 rfl rfl rfl ?_ | refine gny_F 3 rfl rfl rfl ?_ | refine gny_B 3 rfl rfl rfl ?_ | refine gny_skip 3 rfl rfl ?_ | refine gny_sp 3 rfl rfl rfl ?_ | refine gny_sB 3 rfl rfl rfl ?_ | refine gny_sld 3 rfl rfl rfl rfl ?_ | refine gny_sldH 3 rfl rfl rfl ‹HRow _ _ 0 _› rfl ?_ | refine gny_ldN 3 rfl rfl rfl rfl ?_ | refine gny_bld 3 rfl rfl rfl ?_); (first | refine gny_p 4 rfl rfl rfl ?_ | refine gny_ld 4 rfl rfl rfl rfl ?_ | refine gny_ldH 4 rfl rfl rfl ‹HRow _ _ 0 _› rfl ?_ | refine gny_T 4 rfl rfl rfl ?_ | refine gny_F 4 rfl rfl rfl ?_ | refine gny_B 4 rfl rfl rfl ?_ | refine gny_skip 4 rfl rfl ?_ | refine gny_sp 4 rfl rfl rfl ?_ | refine gny_sB 4 rfl rfl rfl ?_ | refine gny_sld 4 rfl rfl rfl rfl ?_ | refine gny_sldH 4 rfl rfl rfl ‹HRow _ _ 0 _› rfl ?_ | refine gny_ldN 4 rfl rfl rfl rfl ?_ | refine gny_bld 4 rfl rfl rfl ?_); (first | refine gny_p 5 rfl rfl rfl ?_ | refine gny_ld 5 rfl rfl rfl rfl ?_ | refine gny_ldH 5 rfl rfl rfl ‹HRow _ _ 0 _› rfl ?_ | refine gny_T 5 rfl rfl rfl ?_ | refine gny_F 5 rfl rfl rfl ?_ | refine gny_B 5 rfl rfl rfl ?_ | refine gny_skip 5 rfl rfl ?_ | refine gny_sp 5 rfl rfl rfl ?_ | refine gny_sB 5 rfl rfl rfl ?_ | refine gny_sld 5 rfl rfl rfl rfl ?_ | refine gny_sldH 5 rfl rfl rfl ‹HRow _ _ 0 _› rfl ?_ | refine gny_ldN 5 rfl rfl rfl rfl ?_ | refine gny_bld 5 rfl rfl rfl ?_)
    refine any_rest rfl ?_
    refine ops_update (RV := rTxn) (ag := true) (cs := [I x1, I x2, I x3]) (u := ⟨x1, x2, x3⟩) rfl rfl ⟨rfl, hx⟩ (by repeat (first | exact Has.here | apply Has.there)) ?_
    refine walk ?_
    have hse : lockAll ⟨x1, x2, x3⟩ (w.ks.take (k + 1)) s.locked = mset w.ks[k] ⟨x1, x2, x3⟩ (lockAll ⟨x1, x2, x3⟩ (w.ks.take k) s.locked) := by rw [ht, lockAll_snoc]
    rw [← hse]
    exact out_next hL (k + 1) (by omega)
  clear hL
  obtain rfl : k = w.ks.length := by omega
  rw [List.take_length]
  refine walk ?_
  refine finB [tRaw p (prepT s ⟨x1, x2, x3⟩ w (w.cv (.slice d1 w.Take.length e1) (.slice d2 w.Drop.length e2))), ownS rStr 1 16 9 H11 (.slice d1 w.Take.length e1) w.Take, ownS rStr 1 16 9 H11 (.slice d2 w.Drop.length e2) w.Drop] ?_ (hs := ?_)
  · exact ⟨by rw [hE], .inr ⟨hE, d1, e1, d2, e2, rfl⟩⟩
  · refine Sub.trans ?_ (Sub.trans (raw_fold (s := prepT s ⟨x1, x2, x3⟩ w (w.cv (.slice d1 w.Take.length e1) (.slice d2 w.Drop.length e2))) (hb := hb) (lb := lb) (wb := wb)) (Sub.cons (Sub.trans (sub_flat H8 H11) (Sub.cons (sub_flat H8 H11)))))
    (repeat (first | exact Sub.refl _ | exact Sub.nil _ | (apply sub_pick; (repeat (first | exact Has.here | apply Has.there)); skip) | apply Sub.drop))
/-- a record, where its lists lie -/
structure RecV where
  q : Rec
  d1 : Option Addr
  e1 : Nat
  d2 : Option Addr
  e2 : Nat
def RecV.cv (v : RecV) : List Value := [I v.q.Kind, I v.q.Txn.Node, I v.q.Txn.Life, I v.q.Txn.Count, I v.q.Work.Robot, .slice v.d1 v.q.Work.Take.length v.e1, .slice v.d2 v.q.Work.Drop.length v.e2, .bool v.q.Yes, nilS]
def rRecV : Rd RecV := fun H cs v => cs = v.cv
instance : RdOk rRecV 9 := ⟨fun h => by subst h; rfl, fun h => by subst h; rfl, fun hl h => h⟩
/-- its lists -/
def ownV (H : Heap) (v : RecV) : HProp := big [ownS rStr 1 16 9 H (.slice v.d1 v.q.Work.Take.length v.e1) v.q.Work.Take, ownS rStr 1 16 9 H (.slice v.d2 v.q.Work.Drop.length v.e2) v.q.Work.Drop]
theorem ownV_shut {H : Heap} {v : RecV} {L : List HProp} : Sub (ownS rStr 1 16 9 H (.slice v.d1 v.q.Work.Take.length v.e1) v.q.Work.Take :: ownS rStr 1 16 9 H (.slice v.d2 v.q.Work.Drop.length v.e2) v.q.Work.Drop :: L) (ownV H v :: L) :=
  sub_fold (B := [_, _]) (Sub.refl _) fun h hb => hb
set_option maxHeartbeats 4000000 in
theorem preparedO_spec {W0 : World} {H : Heap} {p : Nat} {s : TS} (hs : TsOk s) :
    Ct Tryz.prog 15 #[.pointer (some ⟨p, 0, none⟩)] W0 H [tabO H p s] (fun r H' B => ∃ xs : List RecV, B = [ownS rRecV 9 120 47 H' r xs, bigL (ownV H') xs, tabO H' p s]) := by
  refine Ct.go (vs := [.pointer (some ⟨p, 0, none⟩)]) fun R => ?_
  have hn := hs.wn
  have hcap : (1000000 : Nat) * 120 ≤ cap47 := by decide
  refine ex_open (A := tabO H p s) (σ := Nat × Nat × Nat) (B := fun a => [tRow p a.1 a.2.1 a.2.2, hMap H a.1 s, lMap H a.2.1 s, wMap H a.2.2 s]) (p := fun _ => True) (by repeat (first | exact Has.here | apply Has.there)) (fun h ⟨hb, lb, wb, hbig⟩ => ⟨(hb, lb, wb), trivial, hbig⟩) fun ⟨hb, lb, wb⟩ _ => ?_
  dsimp only
  refine ex_know (A := wMap H wb s) (by repeat (first | exact Has.here | apply Has.there)) (fun h ho => mapO_know ho) fun hkw => ?_
  refine walk ?_
  refine ops_call rfl rfl ct_keys3 fun r1 H1 B hl1 ⟨pk, er, eB, eH⟩ => ?_
  subst er eB eH
  have hc := ct_sorted3 (W0 := W0) (H := H1) (H0 := H1) (RV := rCW) (ag := true) (p := pk) (b := wb) (ms := s.works) hs.wf (by simp only [cap47]; omega)
  refine ops_call rfl rfl hc fun r2 H2 B hl2 ⟨eB, eH⟩ => ?_
  subst eB eH
  have hlen : (sort3 (s.works.map (·.1))).length = s.works.length := by rw [sort3_len, List.length_map]
  have hmem : ∀ k ∈ sort3 (s.works.map (·.1)), fits k.1 ∧ fits k.2.1 ∧ fits k.2.2 := fun k hk => by
    obtain ⟨q, hq, rfl⟩ := List.mem_map.1 (mem_sort3.1 hk)
    exact hs.wf q hq
  have hread : ∀ k, rCW H2 ((mget k s.works).getD zCW).1 ((mget k s.works).getD zCW) := fun k => by
    cases hg : mget k s.works with
    | none => exact zCW_reads
    | some v => obtain ⟨cs, e, h⟩ := hkw.1 (k, v) (mget_mem hg); exact ⟨rfl, by subst e; exact h⟩
  generalize sort3 (s.works.map (·.1)) = ks at *
  refine ops_freeze r2 fun H3 hl3 hsl => ?_
  obtain ⟨b0, c0, rfl, hc0, hd0⟩ := hsl.1.shape
  have hlx : (ks.map toTx).length = ks.length := by simp
  refine walk ?_
  refine ex_loop (σ := Nat × Option Addr × Nat × List RecV) (fun u => u.1 ≤ ks.length ∧ u.2.2.2.length = u.1) (fun u => [(0, .pointer (some ⟨p, 0, none⟩)), (11, .slice b0 (ks.map toTx).length c0), (12, I (ks.map toTx).length), (13, I u.1), (3, .slice u.2.1 u.2.2.2.length u.2.2.1)]) (fun _ => H3)
    (fun u => ownS rRecV 9 120 47 H3 (.slice u.2.1 u.2.2.2.length u.2.2.1) u.2.2.2 :: bigL (ownV H3) u.2.2.2 :: wMap H2 wb s :: tRow p hb lb wb :: hMap H2 hb s :: lMap H2 lb s :: R) (fun u => ks.length - u.1) (0, none, 0, []) ⟨Nat.zero_le _, rfl⟩ (hs0 := ?_) fun ⟨k, d, e, xs⟩ ⟨hk0, hxl⟩ K hL => ?_
  rotate_left
  · simp only [List.length_nil]
    refine Sub.trans ?_ (Sub.trans (bigL_nil (A := ownV H3)) (ownS_nil (R := rRecV) (sz := 9) (w := 120) (T := 47) (H := H3)))
    (repeat (first | exact Sub.refl _ | exact Sub.nil _ | (apply sub_pick; (repeat (first | exact Has.here | apply Has.there)); skip) | apply Sub.drop))
  simp only at hk0 hxl
  dsimp only
  refine walk ?_
  refine ex_if rfl (fun hk => ?_) (fun hk => ?_)
  · have hk1 : k < ks.length := by omega
    have ht := List.take_succ_eq_append_getElem hk1
    refine walk ?_
    refine ops_ixp rfl rfl (hsl).1 (show k < (ks.map toTx).length by simpa using hk1) fun b o c hr hc => ?_
    have hx : (ks.map toTx)[k]'(by simpa using hk1) = toTx ks[k] := by simp
    rw [hx] at hc
    have hkm := hmem ks[k] (List.getElem_mem hk1)
    have hrd := hread ks[k]
    obtain ⟨rfl, _⟩ := hc
    generalize ks[k] = kk at *
    obtain ⟨ka, kb, kc⟩ := kk
    dsimp only at hkm
    change HRow H3 b o [I ka, I kb, I kc] at hr
    refine walk ?_
    refine ops_ldNH rfl rfl hr rfl ?_
    refine ops_alloc rfl fun p5 _ => ?_
    refine walk ?_
    refine ex_any 12 [wMap H2 wb s, tRow p hb lb wb, row p5 27 [I ka, I kb, I kc]] ?_
    (first | refine gny_p 0 rfl rfl rfl ?_ | refine gny_ld 0 rfl rfl rfl rfl ?_ | refine gny_ldH 0 rfl rfl rfl ‹HRow _ _ 0 _› rfl ?_ | refine gny_T 0 rfl rfl rfl ?_ | refine gny_F 0 rfl rfl rfl ?_ | refine gny_B 0 rfl rfl rfl ?_ | refine gny_skip 0 rfl rfl ?_ | refine gny_sp 0 rfl rfl rfl ?_ | refine gny_sB 0 rfl rfl rfl ?_ | refine gny_sld 0 rfl rfl rfl rfl ?_ | refine gny_sldH 0 rfl rfl rfl ‹HRow _ _ 0 _› rfl ?_ | refine gny_ldN 0 rfl rfl rfl rfl ?_ | refine gny_bld 0 rfl rfl rfl ?_); (first | refine gny_p 1 rfl rfl rfl ?_ | refine gny_ld 1 rfl rfl rfl rfl ?_ | refine gny_ldH 1 rfl rfl rfl ‹HRow _ _ 0 _› rfl ?_ | refine gny_T 1 rfl rfl rfl ?_ | refine gny_F 1 rfl rfl rfl ?_ | refine gny_B 1 rfl rfl rfl ?_ | refine gny_skip 1 rfl rfl ?_ | refine gny_sp 1 rfl rfl rfl ?_ | refine gny_sB 1 rfl rfl rfl ?_ | refine gny_sld 1 rfl rfl rfl rfl ?_ | refine gny_sldH 1 rfl rfl rfl ‹HRow _ _ 0 _› rfl ?_ | refine gny_ldN 1 rfl rfl rfl rfl ?_ | refine gny_bld 1 rfl rfl rfl ?_); (first | refine gny_p 2 rfl rfl rfl ?_ | refine gny_ld 2 rfl rfl rfl rfl ?_ | refine gny_ldH 2 rfl rfl rfl ‹HRow _ _ 0 _› rfl ?_ | refine gny_T 2 rfl rfl rfl ?_ | refine gny_F 2 rfl rfl rfl ?_ | refine gny_B 2 rfl rfl rfl ?_ | refine gny_skip 2 rfl rfl ?_ | refine gny_sp 2 rfl rfl rfl ?_ | refine gny_sB 2 rfl rfl rfl ?_ | refine gny_sld 2 rfl rfl rfl rfl ?_ | refine gny_sldH 2 rfl rfl rfl ‹HRow _ _ 0 _› rfl ?_ | refine gny_ldN 2 rfl rfl rfl rfl ?_ | refine gny_bld 2 rfl rfl rfl ?_); (first | refine gny_p 3 rfl rfl rfl ?_ | refine gny_ld 3 rfl rfl rfl rfl ?_ | refine gny_ldH 3 rfl rfl rfl ‹HRow _ _ 0 _› rfl ?_ | refine gny_T 3 rfl rfl rfl ?_ | refine gny_F 3 rfl rfl rfl ?_ | refine gny_B 3 rfl rfl rfl ?_ | refine gny_skip 3 rfl rfl ?_ | refine gny_sp 3 rfl rfl rfl ?_ | refine gny_sB 3 rfl rfl rfl ?_ | refine gny_sld 3 rfl rfl rfl rfl ?_ | refine gny_sldH 3 rfl rfl rfl ‹HRow _ _ 0 _› rfl ?_ | refine gny_ldN 3 rfl rfl rfl rfl ?_ | refine gny_bld 3 rfl rfl rfl ?_); (first | refine gny_p 4 rfl rfl rfl ?_ | refine gny_ld 4 rfl rfl rfl rfl ?_ | refine gny_ldH 4 rfl rfl rfl ‹HRow _ _ 0 _› rfl ?_ | refine gny_T 4 rfl rfl rfl ?_ | refine gny_F 4 rfl rfl rfl ?_ | refine gny_B 4 rfl rfl rfl ?_ | refine gny_skip 4 rfl rfl ?_ | refine gny_sp 4 rfl rfl rfl ?_ | refine gny_sB 4 rfl rfl rfl ?_ | refine gny_sld 4 rfl rfl rfl rfl ?_ | refine gny_sldH 4 rfl rfl rfl ‹HRow _ _ 0 _› rfl ?_ | refine gny_ldN 4 rfl rfl rfl rfl ?_ | refine gny_bld 4 rfl rfl rfl ?_); (first | refine gny_p 5 rfl rfl rfl ?_ | refine gny_ld 5 rfl rfl rfl rfl ?_ | refine gny_ldH 5 rfl rfl rfl ‹HRow _ _ 0 _› rfl ?_ | refine gny_T 5 rfl rfl rfl ?_ | refine gny_F 5 rfl rfl rfl ?_ | refine gny_B 5 rfl rfl rfl ?_ | refine gny_skip 5 rfl rfl ?_ | refine gny_sp 5 rfl rfl rfl ?_ | refine gny_sB 5 rfl rfl rfl ?_ | refine gny_sld 5 rfl rfl rfl rfl ?_ | refine gny_sldH 5 rfl rfl rfl ‹HRow _ _ 0 _› rfl ?_ | refine gny_ldN 5 rfl rfl rfl rfl ?_ | refine gny_bld 5 rfl rfl rfl ?_); (first | refine gny_p 6 rfl rfl rfl ?_ | refine gny_ld 6 rfl rfl rfl rfl ?_ | refine gny_ldH 6 rfl rfl rfl ‹HRow _ _ 0 _› rfl ?_ | refine gny_T 6 rfl rfl rfl ?_ | refine gny_F 6 rfl rfl rfl ?_ | refine gny_B 6 rfl rfl rfl ?_ | refine gny_skip 6 rfl rfl ?_ | refine gny_sp 6 rfl rfl rfl ?_ | refine gny_sB 6 rfl rfl rfl ?_ | refine gny_sld 6 rfl rfl rfl rfl ?_ | refine gny_sldH 6 rfl rfl rfl ‹HRow _ _ 0 _› rfl ?_ | refine gny_ldN 6 rfl rfl rfl rfl ?_ | refine gny_bld 6 rfl rfl rfl ?_)
    refine gny_lkA (RV := rCW) (ag := true) (z := zCW) 7 rfl rfl rfl (by repeat (first | exact Has.here | apply Has.there)) ?_
    obtain ⟨wk, hwk⟩ : ∃ wk, ((mget (ka, kb, kc) s.works).getD zCW).2 = wk := ⟨_, rfl⟩
    refine gny_call 8 rfl rfl rfl (ownO_spec (RdOk.mono (R := rWork) hl3 hrd.2)) fun r4 H4 B hl4 ⟨d1, e1, d2, e2, er, eB, eH⟩ => ?_
    subst er eB eH
    refine ⟨(by (repeat (first | exact Sub.refl _ | exact Sub.nil _ | (apply sub_pick; (repeat (first | exact Has.here | apply Has.there)); skip) | apply Sub.drop))), ?_⟩
    rw [hwk]
    (first | refine gny_p 9 rfl rfl rfl ?_ | refine gny_ld 9 rfl rfl rfl rfl ?_ | refine gny_ldH 9 rfl rfl rfl ‹HRow _ _ 0 _› rfl ?_ | refine gny_T 9 rfl rfl rfl ?_ | refine gny_F 9 rfl rfl rfl ?_ | refine gny_B 9 rfl rfl rfl ?_ | refine gny_skip 9 rfl rfl ?_ | refine gny_sp 9 rfl rfl rfl ?_ | refine gny_sB 9 rfl rfl rfl ?_ | refine gny_sld 9 rfl rfl rfl rfl ?_ | refine gny_sldH 9 rfl rfl rfl ‹HRow _ _ 0 _› rfl ?_ | refine gny_ldN 9 rfl rfl rfl rfl ?_ | refine gny_bld 9 rfl rfl rfl ?_)
    refine any_app1 (y := (⟨⟨2, ⟨ka, kb, kc⟩, wk, false, []⟩, d1, e1, d2, e2⟩ : RecV)) 10 11 rfl rfl rfl rfl (by rw [hxl]; simp only [cap47]; omega) fun d3 e3 => ⟨(by (repeat (first | exact Sub.refl _ | exact Sub.nil _ | (apply sub_pick; (repeat (first | exact Has.here | apply Has.there)); skip) | apply Sub.drop))), ?_⟩
    have hsl2 : xs.length + 1 = (xs ++ [(⟨⟨2, ⟨ka, kb, kc⟩, wk, false, []⟩, d1, e1, d2, e2⟩ : RecV)]).length := by simp
    rw [hsl2]
    refine any_rest rfl ?_
    refine ops_L (L' := ownS rRecV 9 120 47 H4 (.slice d3 (xs ++ [(⟨⟨2, ⟨ka, kb, kc⟩, wk, false, []⟩, d1, e1, d2, e2⟩ : RecV)]).length e3) (xs ++ [(⟨⟨2, ⟨ka, kb, kc⟩, wk, false, []⟩, d1, e1, d2, e2⟩ : RecV)]) :: bigL (ownV H4) (xs ++ [(⟨⟨2, ⟨ka, kb, kc⟩, wk, false, []⟩, d1, e1, d2, e2⟩ : RecV)]) :: wMap H2 wb s :: tRow p hb lb wb :: hMap H2 hb s :: lMap H2 lb s :: R) ?_ ?_
    · refine Sub.trans ?_ (Sub.cons (Sub.trans (Sub.trans (ownV_shut (v := (⟨⟨2, ⟨ka, kb, kc⟩, wk, false, []⟩, d1, e1, d2, e2⟩ : RecV))) (Sub.cons (show Sub (bigL (ownV H4) xs :: _) (bigL (ownV H4) (xs ++ []) :: _) by rw [List.append_nil]; exact Sub.refl _))) (bigL_in (l2 := []))))
      (repeat (first | exact Sub.refl _ | exact Sub.nil _ | (apply sub_pick; (repeat (first | exact Has.here | apply Has.there)); skip) | apply Sub.drop))
    refine walk ?_
    exact out_next hL (k + 1, d3, e3, xs ++ [(⟨⟨2, ⟨ka, kb, kc⟩, wk, false, []⟩, d1, e1, d2, e2⟩ : RecV)]) ⟨by simp only; omega, by simp only [List.length_append, List.length_cons, List.length_nil]; omega⟩
  · clear hL
    obtain rfl : k = ks.length := by omega
    refine walk ?_
    refine finB [ownS rRecV 9 120 47 H3 (.slice d xs.length e) xs, bigL (ownV H3) xs, tabO H3 p s] ?_ (hs := ?_)
    · exact ⟨xs, rfl⟩
    · refine Sub.trans ?_ (Sub.cons (Sub.cons (Sub.trans (tab_fold (H := H2) (hb := hb) (lb := lb) (wb := wb)) (tab_up hl3))))
      (repeat (first | exact Sub.refl _ | exact Sub.nil _ | (apply sub_pick; (repeat (first | exact Has.here | apply Has.there)); skip) | apply Sub.drop))
end Go.Proofs.YtkhbfjkioehgfaaGreatDoor
