/- The table without what its lists hold; Prepare with lists that stay owned; records where their lists lie; the law's spoil. Hear, walked, what it makes handed back owned. The law's spoil: the lists of a work are written over. -/
import Derived.Test.YtjgjcakeimkkdaaGreatDoorM13
set_option linter.unusedVariables false
set_option linter.unusedSimpArgs false
namespace Go.Proofs.YtjgjcakeimkkdaaGreatDoor
open Go Go.Sx Go.Proofs
theorem EL.weaken {κ ν : Type} {ek : κ → Value} {RV RV' : Go.Sx.Rd ν} {ag : Bool} {H H' : Heap} : ∀ {es : List MapEntry} {m : List (κ × ν)}, (∀ q ∈ m, ∀ cs, RV H cs q.2 → RV' H' cs q.2) → EL ek RV ag H es m → EL ek RV' ag H' es m
  | [], [], _, _ => trivial
  | e :: es, (k, v) :: m, h, ⟨a, ⟨cs, b, c⟩, d⟩ => ⟨a, ⟨cs, b, h (k, v) (by simp) cs c⟩, EL.weaken (fun q hq => h q (by simp [hq])) d⟩
  | [], _ :: _, _, h => h.elim
  | _ :: _, [], _, h => h.elim
theorem mapO_weaken {κ ν : Type} [DecidableEq κ] {ek : κ → Value} {RV RV' : Go.Sx.Rd ν} {ag : Bool} {H H' : Heap} {b : Nat} {m : List (κ × ν)} (h : ∀ q ∈ m, ∀ cs, RV H cs q.2 → RV' H' cs q.2) : ∀ x, mapO ek RV ag H b m x → mapO ek RV' ag H' b m x :=
  fun x ⟨es, c, a, e⟩ => ⟨es, c, { el := EL.weaken h a.el, nodup := a.nodup, rise := a.rise, lt := a.lt }, e⟩
/-- a work's cells alone -/
def rC : Rd CW := fun H cs v => cs = v.1 ∧ cs.length = 3 ∧ cs.all (·.oneCell') = true
instance : RdOk rC 3 := ⟨fun h => h.2.1, fun h => h.2.2, fun hl h => h⟩
instance : RVal rC true (fun v => .agg v.1.toArray) := ⟨fun ⟨e, _⟩ => by subst e; rfl⟩
abbrev hRaw (hb : Nat) (s : TS) : HProp := mapO Value.string rInt false Heap.empty hb s.held
abbrev lRaw (lb : Nat) (s : TS) : HProp := mapO Value.string rTxn true Heap.empty lb s.locked
abbrev wRaw (wb : Nat) (s : TS) : HProp := mapO ek3 rC true Heap.empty wb s.works
def tRaw (p : Nat) (s : TS) : HProp := fun h => ∃ hb lb wb, big [tRow p hb lb wb, hRaw hb s, lRaw lb s, wRaw wb s] h
/-- the works' lists, read -/
def WR (H : Heap) (s : TS) : Prop := ∀ q ∈ s.works, rWork H q.2.1 q.2.2
theorem raw_fold {p hb lb wb : Nat} {s : TS} {L : List HProp} : Sub (tRow p hb lb wb :: hRaw hb s :: lRaw lb s :: wRaw wb s :: L) (tRaw p s :: L) :=
  sub_fold (B := [tRow p hb lb wb, hRaw hb s, lRaw lb s, wRaw wb s]) (Sub.refl _) fun h hb' => ⟨hb, lb, wb, hb'⟩
theorem big4 {A B C D A' B' C' D' : HProp} (h1 : ∀ x, A x → A' x) (h2 : ∀ x, B x → B' x) (h3 : ∀ x, C x → C' x) (h4 : ∀ x, D x → D' x) : ∀ h, big [A, B, C, D] h → big [A', B', C', D'] h := fun h hbig => by
  obtain ⟨a1, a2, x1, ⟨b1, b2, x2, ⟨c1, c2, x3, ⟨d1, d2, x4, y4⟩, y3⟩, y2⟩, y1⟩ := hbig
  exact ⟨a1, a2, h1 _ x1, ⟨b1, b2, h2 _ x2, ⟨c1, c2, h3 _ x3, ⟨d1, d2, h4 _ x4, y4⟩, y3⟩, y2⟩, y1⟩
theorem w_raw {H : Heap} {wb : Nat} {s : TS} : ∀ x, wMap H wb s x → wRaw wb s x := mapO_weaken (RV := rCW) (RV' := rC) fun q _ cs h => by
  obtain ⟨e, h⟩ := (h : cs = q.2.1 ∧ rWork H cs q.2.2)
  exact ⟨e, RdOk.len (R := rWork) h, RdOk.one (R := rWork) h⟩
theorem raw_w {H : Heap} {wb : Nat} {s : TS} (hw : WR H s) : ∀ x, wRaw wb s x → wMap H wb s x := mapO_weaken (RV := rC) (RV' := rCW) fun q hq cs h => by
  obtain ⟨e, _⟩ := (h : cs = q.2.1 ∧ _)
  subst e
  exact ⟨rfl, hw q hq⟩
theorem h_flat {H H' : Heap} {hb : Nat} {l : List (ByteArray × Int)} : ∀ x, mapO Value.string rInt false H hb l x → mapO Value.string rInt false H' hb l x := mapO_weaken (RV := rInt) (RV' := rInt) fun q _ cs h => h
theorem l_flat {H H' : Heap} {hb : Nat} {l : List (ByteArray × Txn)} : ∀ x, mapO Value.string rTxn true H hb l x → mapO Value.string rTxn true H' hb l x := mapO_weaken (RV := rTxn) (RV' := rTxn) fun q _ cs h => h
theorem tab_raw {H : Heap} {p : Nat} {s : TS} : ∀ h, tabO H p s h → tRaw p s h := fun h ⟨hb, lb, wb, hbig⟩ =>
  ⟨hb, lb, wb, big4 (fun _ h => h) h_flat l_flat w_raw h hbig⟩
theorem raw_tab {H : Heap} {p : Nat} {s : TS} (hw : WR H s) : ∀ h, tRaw p s h → tabO H p s h := fun h ⟨hb, lb, wb, hbig⟩ =>
  ⟨hb, lb, wb, big4 (fun _ h => h) h_flat l_flat (raw_w hw) h hbig⟩
theorem tab_know {H : Heap} {p : Nat} {s : TS} {h : Heap} (ht : tabO H p s h) : WR H s := by
  obtain ⟨hb, lb, wb, a1, a2, x1, ⟨b1, b2, x2, ⟨c1, c2, x3, ⟨d1, d2, x4, y4⟩, y3⟩, y2⟩, y1⟩ := ht
  intro q hq
  obtain ⟨cs, e, hr⟩ := (mapO_know x4).1 q hq
  subst e
  exact hr
theorem WR.mono {H H' : Heap} {s : TS} (h : WR H s) (hl : H.le H') : WR H' s := fun q hq => RdOk.mono (R := rWork) hl (h q hq)
/-- a work with lists of its own, owned -/
theorem ownO_spec {W0 : World} {H : Heap} {c : List Value} {m : Work} (h0 : rWork H c m) :
    Ct Tryz.prog 39 #[.agg c.toArray] W0 H [] (fun r H' B => ∃ d1 e1 d2 e2, r = .agg (m.cv (.slice d1 m.Take.length e1) (.slice d2 m.Drop.length e2)).toArray ∧ B = [ownS rStr 1 16 9 H' (.slice d1 m.Take.length e1) m.Take, ownS rStr 1 16 9 H' (.slice d2 m.Drop.length e2) m.Drop] ∧ H' = H) := by
  refine Ct.go fun R => ?_
  obtain ⟨s1, s2, rfl, f1, h1, h2⟩ := h0
  refine walk ?_
  refine ops_box rfl rfl fun p1 _ => ?_
  refine ops_alloc rfl fun p2 _ => ?_
  refine walk ?_
  refine ex_any 7 [row p1 32 (m.cv s1 s2)] ?_
  refine stepY 0 ?_; refine stepY 1 ?_
  refine stepY 3 ?_; refine stepY 4 ?_
  refine any_call 2 rfl rfl (cloneT_spec h1) fun r1 H1 B hl1 ⟨eB, eH⟩ => ?_
  subst eB eH
  refine ⟨(by (repeat (first | exact Sub.refl _ | exact Sub.nil _ | (apply sub_pick; (repeat (first | exact Has.here | apply Has.there)); skip) | apply Sub.drop))), ?_⟩
  refine stepY 6 ?_
  refine any_call 5 rfl rfl (cloneT_spec h2) fun r2 H2 B hl2 ⟨eB, eH⟩ => ?_
  subst eB eH
  refine ⟨(by (repeat (first | exact Sub.refl _ | exact Sub.nil _ | (apply sub_pick; (repeat (first | exact Has.here | apply Has.there)); skip) | apply Sub.drop))), ?_⟩
  refine any_rest rfl ?_
  refine ops_shape r1 fun d1 e1 e _ _ _ => ?_
  subst e
  refine ops_shape r2 fun d2 e2 e _ _ _ => ?_
  subst e
  refine walk ?_
  refine finB [ownS rStr 1 16 9 H2 (.slice d1 m.Take.length e1) m.Take, ownS rStr 1 16 9 H2 (.slice d2 m.Drop.length e2) m.Drop] ?_
  exact ⟨d1, e1, d2, e2, rfl, rfl, rfl⟩
set_option maxHeartbeats 4000000 in
theorem prepareO_spec {W0 : World} {H : Heap} {p : Nat} {s : TS} {x : Txn} {w : Work} {cw : List Value} (hx : fits x.Node ∧ fits x.Life ∧ fits x.Count) (hw : rWork H cw w) (hwn : (w.ks.length) * 16 ≤ cap47) (hsh : ∀ q ∈ s.works, ∃ G, rWork G q.2.1 q.2.2) :
    Ct Tryz.prog 26 #[.pointer (some ⟨p, 0, none⟩), .agg x.cv.toArray, .agg cw.toArray] W0 H [tRaw p s] (fun r H' B => r = I (prepE s x w) ∧ ((prepE s x w ≠ 0 ∧ B = [tRaw p s]) ∨ (prepE s x w = 0 ∧ ∃ d1 e1 d2 e2, B = [tRaw p (prepT s x w (w.cv (.slice d1 w.Take.length e1) (.slice d2 w.Drop.length e2))), ownS rStr 1 16 9 H' (.slice d1 w.Take.length e1) w.Take, ownS rStr 1 16 9 H' (.slice d2 w.Drop.length e2) w.Drop]))) := by
  refine Ct.go (vs := [.pointer (some ⟨p, 0, none⟩), .agg x.cv.toArray, .agg cw.toArray]) fun R => ?_
  obtain ⟨s1, s2, rfl, hrob, hs1, hs2⟩ := hw
  obtain ⟨b1, c1, rfl, hc1, hd1⟩ := hs1.1.shape
  obtain ⟨b2, c2, rfl, hc2, hd2⟩ := hs2.1.shape
  obtain ⟨x1, x2, x3⟩ := x
  dsimp only at hx
  refine ex_open (A := tRaw p s) (σ := Nat × Nat × Nat) (B := fun a => [tRow p a.1 a.2.1 a.2.2, hRaw a.1 s, lRaw a.2.1 s, wRaw a.2.2 s]) (p := fun _ => True) (by repeat (first | exact Has.here | apply Has.there)) (fun h ⟨hb, lb, wb, hbig⟩ => ⟨(hb, lb, wb), trivial, hbig⟩) fun ⟨hb, lb, wb⟩ _ => ?_
  dsimp only
  have hrd : ∃ G, rWork G ((mget (x1, x2, x3) s.works).getD zCW).1 ((mget (x1, x2, x3) s.works).getD zCW).2 := by
    cases hg : mget (x1, x2, x3) s.works with
    | none => exact ⟨H, zCW_reads.2⟩
    | some v => exact hsh ((x1, x2, x3), v) (mget_mem hg)
  obtain ⟨G, hrd⟩ := hrd
  refine walk ?_
  refine ops_box rfl rfl fun p4 _ => ?_
  refine ops_box rfl rfl fun p5 _ => ?_
  refine walk ?_
  refine ex_any 11 [wRaw wb s, tRow p hb lb wb, row p4 29 [I x1, I x2, I x3]] ?_
  refine stepY 0 ?_; refine stepY 1 ?_; refine stepY 2 ?_; refine stepY 3 ?_; refine stepY 4 ?_
  refine gny_lkA2 (RV := rC) (ag := true) (z := zCW) 5 rfl rfl rfl (by repeat (first | exact Has.here | apply Has.there)) ?_
  obtain ⟨q1, q2, hq, _, hq1, hq2⟩ := hrd
  obtain ⟨g1, f1, rfl, _, _⟩ := hq1.1.shape
  obtain ⟨g2, f2, rfl, _, _⟩ := hq2.1.shape
  rw [hq]
  refine stepY 6 ?_
  refine gny_ext 7 rfl rfl rfl rfl ?_
  refine gny_ext 8 rfl rfl rfl rfl ?_
  refine gny_alloc 9 rfl rfl fun p7 _ => ?_
  refine any_sta 10 rfl rfl rfl rfl (by simp) rfl ⟨(by (repeat (first | exact Sub.refl _ | exact Sub.nil _ | (apply sub_pick; (repeat (first | exact Has.here | apply Has.there)); skip) | apply Sub.drop))), ?_⟩
  refine any_rest rfl ?_
  rw [show (mget (x1, x2, x3) s.works).isSome = decide ((mget (x1, x2, x3) s.works).isSome = true) by simp]
  refine walk ?_
  refine ex_if rfl (fun hin => ?_) (fun hin => ?_)
  · refine walk ?_
    refine finB [tRaw p s] ?_ (hs := ?_)
    · have hE : prepE s ⟨x1, x2, x3⟩ w = 2 := if_pos hin
      exact ⟨by rw [hE], .inl ⟨by rw [hE]; decide, rfl⟩⟩
    · refine Sub.trans ?_ (raw_fold (hb := hb) (lb := lb) (wb := wb))
      (repeat (first | exact Sub.refl _ | exact Sub.nil _ | (apply sub_pick; (repeat (first | exact Has.here | apply Has.there)); skip) | apply Sub.drop))
  refine walk ?_
  refine ops_bsN rfl rfl fun pb _ => ?_
  refine ops_frzR .here fun H1 hl1 hr1 => ?_
  have hsr : SlR (rSl rStr 1 16) 1 H1 (.slice (some ⟨pb, 0, none⟩) 2 2) [w.Take, w.Drop] := slr_of_hrow (R := rSl rStr 1 16) (xs := [w.Take, w.Drop]) hr1 (show RL (rSl rStr 1 16) H1 [.slice b1 w.Take.length c1, .slice b2 w.Drop.length c2] [w.Take, w.Drop] from ⟨[_], [_], rfl, ⟨_, rfl, hs1.mono hl1⟩, ⟨[_], [], rfl, ⟨_, rfl, hs2.mono hl1⟩, rfl⟩⟩) (by simp) (by omega)
  have hwn' : (w.Take.length + w.Drop.length) * 16 ≤ cap47 := by simpa [Work.ks] using hwn
  have hwn2 : w.Take.length + w.Drop.length ≤ 8796093022208 := by have := hwn'; simp only [cap47] at this; omega
  have hcat := concat_spec (W0 := W0) hsr (by simpa [sumLen] using hwn')
  rw [show [w.Take, w.Drop].flatten = w.ks by simp [Work.ks]] at hcat
  refine ops_call rfl rfl hcat fun r1 H2 B hl2 ⟨eB, eH⟩ => ?_
  subst eB eH
  refine walk ?_
  refine ops_call rfl rfl (sortS_ct (W0 := W0) (H := H2) (H0 := H2) (v := r1) (xs := w.ks)) fun r2 H3 B hl3 ⟨er, eB, eH⟩ => ?_
  subst er eB eH
  refine walk ?_
  refine ex_any 10 [row p5 32 (w.cv (.slice b1 w.Take.length c1) (.slice b2 w.Drop.length c2))] ?_
  refine stepY 0 ?_
  refine stepY 3 ?_; refine stepY 4 ?_; refine stepY 5 ?_; refine stepY 6 ?_; refine stepY 7 ?_; refine stepY 8 ?_; refine stepY 9 ?_
  refine gny_call 1 rfl rfl rfl (compactS_ct (W0 := W0) (H := H3) (H0 := H3) (v := r1) (xs := sortT w.ks)) fun r3 H4 B hl4 ⟨eB, eH⟩ => ?_
  subst eB eH
  refine ⟨(by (repeat (first | exact Sub.refl _ | exact Sub.nil _ | (apply sub_pick; (repeat (first | exact Has.here | apply Has.there)); skip) | apply Sub.drop))), ?_⟩
  refine any_shape r3 fun d3 e3 e _ _ _ => ?_
  subst e
  refine stepY 2 ?_
  refine any_rest rfl ?_
  refine walk ?_
  have hdup : (((compT (sortT w.ks)).length : Nat) : Int) < (w.Take.length : Nat) + (w.Drop.length : Nat) ↔ dupT w.ks := by
    unfold dupT
    rw [show w.ks.length = w.Take.length + w.Drop.length by simp [Work.ks]]
    omega
  refine ex_if rfl (fun hdu => ?_) (fun hdu => ?_)
  · rw [hdup] at hdu
    refine walk ?_
    refine finB [tRaw p s] ?_ (hs := ?_)
    · have hE : prepE s ⟨x1, x2, x3⟩ w = 1 := (if_neg hin).trans (if_pos hdu)
      exact ⟨by rw [hE], .inl ⟨by rw [hE]; decide, rfl⟩⟩
    · refine Sub.trans ?_ (raw_fold (hb := hb) (lb := lb) (wb := wb))
      (repeat (first | exact Sub.refl _ | exact Sub.nil _ | (apply sub_pick; (repeat (first | exact Has.here | apply Has.there)); skip) | apply Sub.drop))
  rw [hdup] at hdu
  refine walk ?_
  refine ops_bsN rfl rfl fun pc _ => ?_
  refine ops_frzR .here fun H5 hl5 hr5 => ?_
  have hl05 : H.le H5 := hl1.trans (hl2.trans (hl3.trans (hl4.trans hl5)))
  have hsr5 : SlR (rSl rStr 1 16) 1 H5 (.slice (some ⟨pc, 0, none⟩) 2 2) [w.Take, w.Drop] := slr_of_hrow (R := rSl rStr 1 16) (xs := [w.Take, w.Drop]) hr5 (show RL (rSl rStr 1 16) H5 [.slice b1 w.Take.length c1, .slice b2 w.Drop.length c2] [w.Take, w.Drop] from ⟨[_], [_], rfl, ⟨_, rfl, hs1.mono hl05⟩, ⟨[_], [], rfl, ⟨_, rfl, hs2.mono hl05⟩, rfl⟩⟩) (by simp) (by omega)
  have hcat5 := concat_spec (W0 := W0) hsr5 (by simpa [sumLen] using hwn')
  rw [show [w.Take, w.Drop].flatten = w.ks by simp [Work.ks]] at hcat5
  refine ops_call rfl rfl hcat5 fun r5 H6 B hl6 ⟨eB, eH⟩ => ?_
  subst eB eH
  refine ops_freeze r5 fun H7 hl7 hsl => ?_
  obtain ⟨bk, ck, rfl, hck, hdk⟩ := hsl.1.shape
  refine walk ?_
  refine ex_loop (σ := Nat) (fun k => k ≤ w.ks.length) (fun k => [(0, .pointer (some ⟨p, 0, none⟩)), (4, .pointer (some ⟨p4, 0, none⟩)), (5, .pointer (some ⟨p5, 0, none⟩)), (10, .bool (decide (wayT s w 0 (w.ks.take k) = true))), (53, .slice bk w.ks.length ck), (54, I w.ks.length), (55, I k)]) (fun _ => H7)
    (fun _ => row p5 32 (w.cv (.slice b1 w.Take.length c1) (.slice b2 w.Drop.length c2)) :: row p4 29 [I x1, I x2, I x3] :: tRow p hb lb wb :: hRaw hb s :: lRaw lb s :: wRaw wb s :: R) (fun k => w.ks.length - k) 0 (Nat.zero_le _) fun k hk0 K hL => ?_
  refine walk ?_
  refine ex_if rfl (fun hk => ?_) (fun hk => ?_)
  · have hk1 : k < w.ks.length := by omega
    have ht := List.take_succ_eq_append_getElem hk1
    have hwy := wayT_snoc (s := s) (w := w) (k := w.ks[k]) (l := w.ks.take k) (i := 0)
    rw [← ht, Nat.zero_add, List.length_take, Nat.min_eq_left hk0] at hwy
    refine walk ?_
    refine ops_ixp rfl rfl hsl.1 hk1 fun b o c hr hc => ?_
    obtain ⟨rfl, hsz⟩ := hc
    refine walk ?_
    refine ops_lkA2 (RV := rInt) (ag := false) (z := 0) rfl rfl (by repeat (first | exact Has.here | apply Has.there)) ?_
    refine walk ?_
    refine ops_lkA2 (RV := rTxn) (ag := true) (z := zTxn) rfl rfl (by repeat (first | exact Has.here | apply Has.there)) ?_
    refine walk ?_
    rw [show (mget w.ks[k] s.locked).isSome = decide ((mget w.ks[k] s.locked).isSome = true) by simp, show (mget w.ks[k] s.held).isSome = decide ((mget w.ks[k] s.held).isSome = true) by simp]
    refine ops_alloc rfl fun p15 _ => ?_
    refine walkG ?_
    have hd := bdec (p := (wayT s w 0 (w.ks.take k) = true ∧ ¬(mget w.ks[k] s.locked).isSome = true) ∧ ((w.Take.length : Int) ≤ (k : Int) ∨ ¬(mget w.ks[k] s.held).isSome = true)) (q := wayT s w 0 (w.ks.take (k + 1)) = true) (by
      rw [hwy]
      simp only [Bool.and_eq_true, Bool.or_eq_true, Bool.not_eq_true', decide_eq_true_eq, Bool.not_eq_true, Int.ofNat_le, and_assoc])
    rw [hd]
    exact out_next hL (k + 1) (by omega)
  clear hL
  obtain rfl : k = w.ks.length := by omega
  rw [List.take_length]
  refine walk ?_
  refine ex_if rfl (fun hfr => ?_) (fun hfr => ?_)
  · refine walk ?_
    refine finB [tRaw p s] ?_ (hs := ?_)
    · have hE : prepE s ⟨x1, x2, x3⟩ w = 140 := (if_neg hin).trans ((if_neg hdu).trans (if_neg hfr))
      exact ⟨by rw [hE], .inl ⟨by rw [hE]; decide, rfl⟩⟩
    · refine Sub.trans ?_ (raw_fold (hb := hb) (lb := lb) (wb := wb))
      (repeat (first | exact Sub.refl _ | exact Sub.nil _ | (apply sub_pick; (repeat (first | exact Has.here | apply Has.there)); skip) | apply Sub.drop))
  have hfr' : wayT s w 0 w.ks = true := by simpa using hfr
  have hE : prepE s ⟨x1, x2, x3⟩ w = 0 := (if_neg hin).trans ((if_neg hdu).trans (if_pos hfr'))
  refine walk ?_
  refine ex_any 7 [row p4 29 [I x1, I x2, I x3], row p5 32 (w.cv (.slice b1 w.Take.length c1) (.slice b2 w.Drop.length c2)), tRow p hb lb wb] ?_
  refine stepY 0 ?_; refine stepY 1 ?_; refine stepY 2 ?_; refine stepY 3 ?_; refine stepY 4 ?_; refine stepY 5 ?_
  have hl07 : H.le H7 := hl05.trans (hl6.trans hl7)
  refine gny_call 6 rfl rfl rfl (ownO_spec (m := w) ⟨_, _, rfl, hrob, hs1.mono hl07, hs2.mono hl07⟩) fun r6 H8 B hl8 ⟨d1, e1, d2, e2, er, eB, eH⟩ => ?_
  subst er eB eH
  refine ⟨(by (repeat (first | exact Sub.refl _ | exact Sub.nil _ | (apply sub_pick; (repeat (first | exact Has.here | apply Has.there)); skip) | apply Sub.drop))), ?_⟩
  refine any_rest rfl ?_
  refine ops_update (RV := rC) (ag := true) (cs := w.cv (.slice d1 w.Take.length e1) (.slice d2 w.Drop.length e2)) (u := (w.cv (.slice d1 w.Take.length e1) (.slice d2 w.Drop.length e2), w)) rfl rfl ⟨rfl, rfl, rfl⟩ (by repeat (first | exact Has.here | apply Has.there)) ?_
  refine walk ?_
  refine ops_bsN rfl rfl fun pd _ => ?_
  refine ops_frzR .here fun H9 hl9 hr9 => ?_
  have hl09 : H.le H9 := hl07.trans hl9
  have hsr9 : SlR (rSl rStr 1 16) 1 H9 (.slice (some ⟨pd, 0, none⟩) 2 2) [w.Take, w.Drop] := slr_of_hrow (R := rSl rStr 1 16) (xs := [w.Take, w.Drop]) hr9 (show RL (rSl rStr 1 16) H9 [.slice b1 w.Take.length c1, .slice b2 w.Drop.length c2] [w.Take, w.Drop] from ⟨[_], [_], rfl, ⟨_, rfl, hs1.mono hl09⟩, ⟨[_], [], rfl, ⟨_, rfl, hs2.mono hl09⟩, rfl⟩⟩) (by simp) (by omega)
  have hcat9 := concat_spec (W0 := W0) hsr9 (by simpa [sumLen] using hwn')
  rw [show [w.Take, w.Drop].flatten = w.ks by simp [Work.ks]] at hcat9
  refine ops_call rfl rfl hcat9 fun r9 H10 B hl10 ⟨eB, eH⟩ => ?_
  subst eB eH
  refine ops_freeze r9 fun H11 hl11 hsm => ?_
  obtain ⟨bm, cm, rfl, hcm, hdm⟩ := hsm.1.shape
  refine walk ?_
  refine ex_loop (σ := Nat) (fun k => k ≤ w.ks.length) (fun k => [(0, .pointer (some ⟨p, 0, none⟩)), (4, .pointer (some ⟨p4, 0, none⟩)), (109, .slice bm w.ks.length cm), (110, I w.ks.length), (111, I k)]) (fun _ => H11)
    (fun k => mapO Value.string rTxn true Heap.empty lb (lockAll ⟨x1, x2, x3⟩ (w.ks.take k) s.locked) :: row p4 29 [I x1, I x2, I x3] :: tRow p hb lb wb :: mapO ek3 rC true Heap.empty wb (mset (x1, x2, x3) (w.cv (.slice d1 w.Take.length e1) (.slice d2 w.Drop.length e2), w) s.works) :: hRaw hb s :: ownS rStr 1 16 9 H8 (.slice d1 w.Take.length e1) w.Take :: ownS rStr 1 16 9 H8 (.slice d2 w.Drop.length e2) w.Drop :: R) (fun k => w.ks.length - k) 0 (Nat.zero_le _) fun k hk0 K hL => ?_
  refine walk ?_
  refine ex_if rfl (fun hk => ?_) (fun hk => ?_)
  · have hk1 : k < w.ks.length := by omega
    have ht := List.take_succ_eq_append_getElem hk1
    refine walk ?_
    refine ops_ixp rfl rfl hsm.1 hk1 fun b o c hr hc => ?_
    obtain ⟨rfl, hsz⟩ := hc
    refine walk ?_
    refine ex_any 6 [row p4 29 [I x1, I x2, I x3], tRow p hb lb wb] ?_
    refine stepY 0 ?_; refine stepY 1 ?_; refine stepY 2 ?_; refine stepY 3 ?_; refine stepY 4 ?_; refine stepY 5 ?_
    refine any_rest rfl ?_
    refine ops_update (RV := rTxn) (ag := true) (cs := [I x1, I x2, I x3]) (u := ⟨x1, x2, x3⟩) rfl rfl ⟨rfl, hx⟩ (by repeat (first | exact Has.here | apply Has.there)) ?_
    refine walk ?_
    have hse : lockAll ⟨x1, x2, x3⟩ (w.ks.take (k + 1)) s.locked = mset w.ks[k] ⟨x1, x2, x3⟩ (lockAll ⟨x1, x2, x3⟩ (w.ks.take k) s.locked) := by rw [ht, lockAll_snoc]
    rw [← hse]
    exact out_next hL (k + 1) (by omega)
  clear hL
  obtain rfl : k = w.ks.length := by omega
  rw [List.take_length]
  refine walk ?_
  refine finB [tRaw p (prepT s ⟨x1, x2, x3⟩ w (w.cv (.slice d1 w.Take.length e1) (.slice d2 w.Drop.length e2))), ownS rStr 1 16 9 H11 (.slice d1 w.Take.length e1) w.Take, ownS rStr 1 16 9 H11 (.slice d2 w.Drop.length e2) w.Drop] ?_ (hs := ?_)
  · exact ⟨by rw [hE], .inr ⟨hE, d1, e1, d2, e2, rfl⟩⟩
  · refine Sub.trans ?_ (Sub.trans (raw_fold (s := prepT s ⟨x1, x2, x3⟩ w (w.cv (.slice d1 w.Take.length e1) (.slice d2 w.Drop.length e2))) (hb := hb) (lb := lb) (wb := wb)) (Sub.cons (Sub.trans (sub_flat H8 H11) (Sub.cons (sub_flat H8 H11)))))
    (repeat (first | exact Sub.refl _ | exact Sub.nil _ | (apply sub_pick; (repeat (first | exact Has.here | apply Has.there)); skip) | apply Sub.drop))
theorem sub_head {A B : HProp} {L : List HProp} (f : ∀ x, A x → B x) : Sub (A :: L) (B :: L) := fun h ⟨h1, h2, a, r⟩ => ⟨h1, h2, f _ a, r⟩
theorem prepT_works {s : TS} {x : Txn} {w : Work} {cs : List Value} {H : Heap} (h : WR H s) (hw : rWork H cs w) : WR H (prepT s x w cs) := fun q hq => by
  have : ∀ {l : List (K3 × CW)}, (∀ q ∈ l, rWork H q.2.1 q.2.2) → ∀ q ∈ mset x.k (cs, w) l, rWork H q.2.1 q.2.2 := by
    intro l
    induction l with
    | nil => intro _ q hq; simp only [mset, List.mem_singleton] at hq; subst hq; exact hw
    | cons a l ih =>
      obtain ⟨ak, av⟩ := a
      intro hl q hq
      have hl2 : ∀ q ∈ l, rWork H q.2.1 q.2.2 := fun q hq => hl q (List.mem_cons_of_mem _ hq)
      unfold mset at hq
      split at hq
      · rcases List.mem_cons.1 hq with rfl | hq
        · exact hw
        · exact hl2 q hq
      · rcases List.mem_cons.1 hq with rfl | hq
        · exact hl _ (List.mem_cons_self ..)
        · exact ih hl2 q hq
  exact this h q hq
/-- a record, where its lists lie -/
structure RecV where
  q : Rec
  d1 : Option Addr
  e1 : Nat
  d2 : Option Addr
  e2 : Nat
def RecV.cv (v : RecV) : List Value := [I v.q.Kind, I v.q.Txn.Node, I v.q.Txn.Life, I v.q.Txn.Count, I v.q.Work.Robot, .slice v.d1 v.q.Work.Take.length v.e1, .slice v.d2 v.q.Work.Drop.length v.e2, .bool v.q.Yes, nilS]
def rRecV : Rd RecV := fun H cs v => cs = v.cv
instance : RdOk rRecV 9 := ⟨fun h => by subst h; rfl, fun h => by subst h; rfl, fun hl h => h⟩
instance : RdFlat rRecV := ⟨fun h => h⟩
/-- a message whose lists are empty -/
def rMsg0 : Rd Message := fun H cs m => cs = m.cv nilS nilS nilS nilS ∧ rMessage Heap.empty cs m
instance : RdOk rMsg0 19 := ⟨fun h => RdOk.len (R := rMessage) h.2, fun h => RdOk.one (R := rMessage) h.2, fun hl h => h⟩
instance : RdFlat rMsg0 := ⟨fun h => h⟩
theorem RL.weak {α : Type} {R R' : Sx.Rd α} {H H' : Heap} : ∀ {xs : List α} {cs : List Value}, (∀ x ∈ xs, ∀ c, R H c x → R' H' c x) → RL R H cs xs → RL R' H' cs xs
  | [], _, _, h => h
  | x :: xs, cs, hw, ⟨a, b, e, h1, h2⟩ => ⟨a, b, e, hw x (List.mem_cons_self ..) a h1, RL.weak (fun y hy => hw y (List.mem_cons_of_mem _ hy)) h2⟩
/-- what an applied transaction leaves -/
theorem mem_mdel {κ ν : Type} [DecidableEq κ] {k : κ} {q : κ × ν} : ∀ {m : List (κ × ν)}, q ∈ mdel k m → q ∈ m
  | [], h => h
  | (k', v') :: m, h => by
    unfold mdel at h
    split at h
    · exact List.mem_cons_of_mem _ h
    · rcases List.mem_cons.1 h with rfl | h
      · exact List.mem_cons_self ..
      · exact List.mem_cons_of_mem _ (mem_mdel h)
theorem applyT_works {s : TS} {x : Txn} {y : Bool} {H : Heap} (h : WR H s) : WR H (applyT s x y) := by
  unfold applyT
  split
  · exact fun q hq => h q (mem_mdel hq)
  · exact h
def pRaw (p : Nat) (s : PS) : HProp := fun h => ∃ tp db, big [pRow p tp s.sh db, tRaw tp s.t, mapO ek3 rInt false Heap.empty db s.done] h
theorem praw_fold {p tp db : Nat} {s : PS} {L : List HProp} : Sub (pRow p tp s.sh db :: tRaw tp s.t :: mapO ek3 rInt false Heap.empty db s.done :: L) (pRaw p s :: L) :=
  sub_fold (B := [pRow p tp s.sh db, tRaw tp s.t, mapO ek3 rInt false Heap.empty db s.done]) (Sub.refl _) fun h hb => ⟨tp, db, hb⟩
theorem d_flat {H H' : Heap} {db : Nat} {l : List (K3 × Int)} : ∀ x, mapO ek3 rInt false H db l x → mapO ek3 rInt false H' db l x := mapO_weaken (RV := rInt) (RV' := rInt) fun q _ cs h => h
theorem big3 {A B C A' B' C' : HProp} (h1 : ∀ x, A x → A' x) (h2 : ∀ x, B x → B' x) (h3 : ∀ x, C x → C' x) : ∀ h, big [A, B, C] h → big [A', B', C'] h := fun h hbig => by
  obtain ⟨a1, a2, x1, ⟨b1, b2, x2, ⟨c1, c2, x3, y3⟩, y2⟩, y1⟩ := hbig
  exact ⟨a1, a2, h1 _ x1, ⟨b1, b2, h2 _ x2, ⟨c1, c2, h3 _ x3, y3⟩, y2⟩, y1⟩
theorem part_raw {H : Heap} {p : Nat} {s : PS} : ∀ h, partO H p s h → pRaw p s h := fun h ⟨tp, db, hbig⟩ =>
  ⟨tp, db, big3 (fun _ h => h) tab_raw d_flat h hbig⟩
theorem raw_part {H : Heap} {p : Nat} {s : PS} (hw : WR H s.t) : ∀ h, pRaw p s h → partO H p s h := fun h ⟨tp, db, hbig⟩ =>
  ⟨tp, db, big3 (fun _ h => h) (raw_tab hw) d_flat h hbig⟩
theorem part_know {H : Heap} {p : Nat} {s : PS} {h : Heap} (ht : partO H p s h) : WR H s.t := by
  obtain ⟨tp, db, a1, a2, x1, ⟨b1, b2, x2, y2, z2⟩, z1⟩ := ht
  exact tab_know x2
/-- its parts, raw, shut again -/
theorem praw_shut {H1 H2 : Heap} {p tp db : Nat} {sh : Int} {t : TS} {d : List (K3 × Int)} {L : List HProp} : Sub (pRow p tp sh db :: tabO H1 tp t :: mapO ek3 rInt false H2 db d :: L) (pRaw p ⟨sh, t, d⟩ :: L) :=
  Sub.trans (Sub.cons (Sub.trans (sub_head tab_raw) (Sub.cons (sub_head d_flat)))) (praw_fold (s := ⟨sh, t, d⟩))
end Go.Proofs.YtjgjcakeimkkdaaGreatDoor

set_option linter.unusedVariables false
set_option linter.unusedSimpArgs false
namespace Go.Proofs.YtjgjcakeimkkdaaGreatDoor
open Go Go.Sx Go.Proofs
def OkV (y : RecV) : Prop := ∀ H' : Heap, SlB rStr 1 16 H' (.slice y.d1 y.q.Work.Take.length y.e1) y.q.Work.Take → SlB rStr 1 16 H' (.slice y.d2 y.q.Work.Drop.length y.e2) y.q.Work.Drop → rRec H' y.cv y.q
theorem bigL_one {ι : Type} {A : ι → HProp} {x : ι} {L : List HProp} : Sub (A x :: L) (bigL A [x] :: L) :=
  Sub.trans (Sub.cons bigL_nil) (bigL_in (l1 := []) (l2 := []))
/-- its lists -/
def ownV (H : Heap) (v : RecV) : HProp := big [ownS rStr 1 16 9 H (.slice v.d1 v.q.Work.Take.length v.e1) v.q.Work.Take, ownS rStr 1 16 9 H (.slice v.d2 v.q.Work.Drop.length v.e2) v.q.Work.Drop]
theorem ownV_shut {H : Heap} {v : RecV} {L : List HProp} : Sub (ownS rStr 1 16 9 H (.slice v.d1 v.q.Work.Take.length v.e1) v.q.Work.Take :: ownS rStr 1 16 9 H (.slice v.d2 v.q.Work.Drop.length v.e2) v.q.Work.Drop :: L) (ownV H v :: L) :=
  sub_fold (B := [_, _]) (Sub.refl _) fun h hb => hb
/-- a work with lists of its own, owned -/
theorem pownO_spec {W0 : World} {H : Heap} {c : List Value} {m : Work} (h0 : rWork H c m) :
    Ct Tryz.prog 27 #[.agg c.toArray] W0 H [] (fun r H' B => ∃ d1 e1 d2 e2, r = .agg (m.cv (.slice d1 m.Take.length e1) (.slice d2 m.Drop.length e2)).toArray ∧ B = [ownS rStr 1 16 9 H' (.slice d1 m.Take.length e1) m.Take, ownS rStr 1 16 9 H' (.slice d2 m.Drop.length e2) m.Drop] ∧ H' = H) := by
  refine Ct.go fun R => ?_
  obtain ⟨s1, s2, rfl, f1, h1, h2⟩ := h0
  refine walk ?_
  refine ops_box rfl rfl fun p1 _ => ?_
  refine ops_alloc rfl fun p2 _ => ?_
  refine walk ?_
  refine ex_any 7 [row p1 32 (m.cv s1 s2)] ?_
  refine stepY 0 ?_; refine stepY 1 ?_
  refine stepY 3 ?_; refine stepY 4 ?_
  refine any_call 2 rfl rfl (cloneT_spec h1) fun r1 H1 B hl1 ⟨eB, eH⟩ => ?_
  subst eB eH
  refine ⟨(by (repeat (first | exact Sub.refl _ | exact Sub.nil _ | (apply sub_pick; (repeat (first | exact Has.here | apply Has.there)); skip) | apply Sub.drop))), ?_⟩
  refine stepY 6 ?_
  refine any_call 5 rfl rfl (cloneT_spec h2) fun r2 H2 B hl2 ⟨eB, eH⟩ => ?_
  subst eB eH
  refine ⟨(by (repeat (first | exact Sub.refl _ | exact Sub.nil _ | (apply sub_pick; (repeat (first | exact Has.here | apply Has.there)); skip) | apply Sub.drop))), ?_⟩
  refine any_rest rfl ?_
  refine ops_shape r1 fun d1 e1 e _ _ _ => ?_
  subst e
  refine ops_shape r2 fun d2 e2 e _ _ _ => ?_
  subst e
  refine walk ?_
  refine finB [ownS rStr 1 16 9 H2 (.slice d1 m.Take.length e1) m.Take, ownS rStr 1 16 9 H2 (.slice d2 m.Drop.length e2) m.Drop] ?_
  exact ⟨d1, e1, d2, e2, rfl, rfl, rfl⟩
theorem out0_reads {H : Heap} {s : PS} {m : Message} {k : Int} {y : Bool} (hs : fits s.sh) (hf : fits m.From) (hk : fits k) (hx : fits m.Txn.Node ∧ fits m.Txn.Life ∧ fits m.Txn.Count) : rMsg0 H (mCells s m k y) { zMessage with From := s.sh, To := m.From, Kind := k, Txn := m.Txn, Yes := y } :=
  ⟨rfl, outM_reads hs hf hk hx⟩
/-- what Hear hands back -/
def HearOQ (p : Nat) (s : PS) (m : Message) (r : Value) (H' : Heap) (B : List HProp) : Prop :=
  ∃ v1 v2 ys, r = .tuple #[v1, v2] ∧ ys.map (·.q) = hearRec s m ∧ (∀ y ∈ ys, OkV y) ∧
    ((∃ s', (∀ cs, hearS s m cs = s') ∧ (∀ G, WR G s.t → WR G s'.t) ∧ B = [ownS rMsg0 19 216 43 H' v1 (hearOut s m), ownS rRecV 9 120 53 H' v2 ys, bigL (ownV H') ys, pRaw p s']) ∨
     (∃ d1 e1 d2 e2 s', s' = hearS s m (m.Work.cv (.slice d1 m.Work.Take.length e1) (.slice d2 m.Work.Drop.length e2)) ∧ (∀ G, WR G s.t → rWork G (m.Work.cv (.slice d1 m.Work.Take.length e1) (.slice d2 m.Work.Drop.length e2)) m.Work → WR G s'.t) ∧
        B = [ownS rMsg0 19 216 43 H' v1 (hearOut s m), ownS rRecV 9 120 53 H' v2 ys, bigL (ownV H') ys, pRaw p s', ownS rStr 1 16 9 H' (.slice d1 m.Work.Take.length e1) m.Work.Take, ownS rStr 1 16 9 H' (.slice d2 m.Work.Drop.length e2) m.Work.Drop]))
theorem HearOQ.nil {p : Nat} {s : PS} {m : Message} {H' : Heap} (h1 : hearOut s m = []) (h2 : hearRec s m = []) (h3 : ∀ cs, hearS s m cs = s) : HearOQ p s m (.tuple #[nilS, nilS]) H' [ownS rMsg0 19 216 43 H' nilS [], ownS rRecV 9 120 53 H' nilS [], bigL (ownV H') [], pRaw p s] :=
  ⟨_, _, [], rfl, h2.symm, fun y hy => (by cases hy), .inl ⟨s, h3, fun _ h => h, by rw [h1]⟩⟩
theorem HearOQ.one {p : Nat} {s : PS} {m : Message} {H' : Heap} {v1 : Value} {o : Message} (h1 : hearOut s m = [o]) (h2 : hearRec s m = []) (h3 : ∀ cs, hearS s m cs = s) : HearOQ p s m (.tuple #[v1, nilS]) H' [ownS rMsg0 19 216 43 H' v1 [o], ownS rRecV 9 120 53 H' nilS [], bigL (ownV H') [], pRaw p s] :=
  ⟨_, _, [], rfl, h2.symm, fun y hy => (by cases hy), .inl ⟨s, h3, fun _ h => h, by rw [h1]⟩⟩
abbrev vA (m : Message) : RecV := ⟨recA m, none, 0, none, 0⟩
theorem vA_ok {m : Message} (hx : fits m.Txn.Node ∧ fits m.Txn.Life ∧ fits m.Txn.Count) : OkV (vA m) := fun H' h1 h2 => ⟨nilS, nilS, nilS, rfl, fk3, hx.1, hx.2.1, hx.2.2, fits0, SlB.nil, SlB.nil, SlB.nil⟩
theorem HearOQ.app {p : Nat} {s s' : PS} {m : Message} {H' : Heap} {v1 v2 : Value} {o : Message} (hx : fits m.Txn.Node ∧ fits m.Txn.Life ∧ fits m.Txn.Count) (h1 : hearOut s m = [o]) (h2 : hearRec s m = [recA m]) (h3 : ∀ cs, hearS s m cs = s') (h4 : s'.t = applyT s.t m.Txn m.Yes) : HearOQ p s m (.tuple #[v1, v2]) H' [ownS rMsg0 19 216 43 H' v1 [o], ownS rRecV 9 120 53 H' v2 [vA m], bigL (ownV H') [vA m], pRaw p s'] :=
  ⟨_, _, [vA m], rfl, h2.symm, fun y hy => (by rw [List.mem_singleton] at hy; subst hy; exact vA_ok hx), .inl ⟨s', h3, fun _ h => (by rw [h4]; exact applyT_works h), by rw [h1]⟩⟩
theorem nil_vA {m : Message} {H : Heap} {L : List HProp} : Sub L (bigL (ownV H) [vA m] :: L) :=
  Sub.trans (Sub.trans (Sub.trans ownS_nil ownS_nil) (ownV_shut (v := vA m))) bigL_one
set_option maxHeartbeats 16000000 in
set_option maxRecDepth 20000 in
theorem hearO_spec {W0 : World} {H : Heap} {p n : Nat} {s : PS} {m : Message} {c : List Value} (hP : PkH H) (I0 : PInv n s) (hn : n ≤ 500) (hm : OkM m) (hc : rMessage H c m) :
    Ct Tryz.prog 9 #[.pointer (some ⟨p, 0, none⟩), .agg c.toArray] W0 H [partO H p s] (fun r H' B => HearOQ p s m r H' B) := by
  refine Ct.go (vs := [.pointer (some ⟨p, 0, none⟩), .agg c.toArray]) fun R => ?_
  obtain ⟨s1, s2, s3, s4, rfl, f1, f2, f3, f4, f5, f6, f7, h1, h2, f8, f9, f10, f11, h3, f12, f13, f14, h4⟩ := hc
  obtain ⟨b1, c1, rfl, _, _⟩ := h1.1.shape
  obtain ⟨b2, c2, rfl, _, _⟩ := h2.1.shape
  obtain ⟨b3, c3, rfl, _, _⟩ := h3.1.shape
  obtain ⟨b4, c4, rfl, _, _⟩ := h4.1.shape
  refine ex_open (A := partO H p s) (σ := Nat × Nat) (B := fun a => [pRow p a.1 (PS.sh s) a.2, tabO H a.1 (PS.t s), dMap H a.2 s]) (p := fun _ => True) (by repeat (first | exact Has.here | apply Has.there)) (fun h ⟨tp, db, hbig⟩ => ⟨(tp, db), trivial, hbig⟩) fun ⟨tp, db⟩ _ => ?_
  dsimp only
  refine walk ?_
  refine ops_box rfl rfl fun p3 _ => ?_
  have hnil : ∀ {H' : Heap} {L : List HProp}, Sub L (ownS rMsg0 19 216 43 H' nilS [] :: ownS rRecV 9 120 53 H' nilS [] :: bigL (ownV H') [] :: L) := (bigL_nil.trans ownS_nil).trans ownS_nil
  have hnil1 : ∀ {H' : Heap} {L : List HProp}, Sub L (ownS rRecV 9 120 53 H' nilS [] :: bigL (ownV H') [] :: L) := bigL_nil.trans ownS_nil
  by_cases hf : forMe s m
  case neg =>
    by_cases e1 : m.To = s.sh
    · have e2 : ¬ m.From = m.Txn.Node := fun e => hf ⟨e1, e⟩
      refine walk ?_
      refine finB [ownS rMsg0 19 216 43 H nilS [], ownS rRecV 9 120 53 H nilS [], bigL (ownV H) [], pRaw p s] ?_ (hs := ?_)
      · exact HearOQ.nil (if_pos hf) (if_pos hf) fun cs => if_pos hf
      · refine Sub.trans ?_ (Sub.trans (praw_shut (H1 := H) (H2 := H) (tp := tp) (db := db)) hnil)
        (repeat (first | exact Sub.refl _ | exact Sub.nil _ | (apply sub_pick; (repeat (first | exact Has.here | apply Has.there)); skip) | apply Sub.drop))
    · refine walk ?_
      refine finB [ownS rMsg0 19 216 43 H nilS [], ownS rRecV 9 120 53 H nilS [], bigL (ownV H) [], pRaw p s] ?_ (hs := ?_)
      · exact HearOQ.nil (if_pos hf) (if_pos hf) fun cs => if_pos hf
      · refine Sub.trans ?_ (Sub.trans (praw_shut (H1 := H) (H2 := H) (tp := tp) (db := db)) hnil)
        (repeat (first | exact Sub.refl _ | exact Sub.nil _ | (apply sub_pick; (repeat (first | exact Has.here | apply Has.there)); skip) | apply Sub.drop))
  have hf' : ¬ ¬ forMe s m := fun h => h hf
  obtain ⟨e1, e2⟩ := id hf
  refine walk ?_
  refine ex_any 11 [row p3 43 (m.cv (.slice b1 m.Work.Take.length c1) (.slice b2 m.Work.Drop.length c2) (.slice b3 m.Call.Route.Cells.length c3) (.slice b4 m.Reply.Route.Cells.length c4)), pRow p tp s.sh db] ?_
  refine stepY 0 ?_; refine stepY 1 ?_; refine stepY 2 ?_; refine stepY 3 ?_; refine stepY 4 ?_; refine stepY 5 ?_; refine stepY 6 ?_; refine stepY 7 ?_; refine stepY 8 ?_
  refine gny_alloc 9 rfl rfl fun p6 _ => ?_
  refine any_sta 10 rfl rfl rfl rfl (by simp) rfl ⟨(by (repeat (first | exact Sub.refl _ | exact Sub.nil _ | (apply sub_pick; (repeat (first | exact Has.here | apply Has.there)); skip) | apply Sub.drop))), ?_⟩
  refine any_rest rfl ?_
  refine ops_L (L' := row p6 43 [I s.sh, I m.From, I 0, I m.Txn.Node, I m.Txn.Life, I m.Txn.Count, I 0, nilS, nilS, .bool false, I 0, I 0, I 0, I 0, nilS, I 0, I 0, I 0, nilS] :: row p3 43 (m.cv (.slice b1 m.Work.Take.length c1) (.slice b2 m.Work.Drop.length c2) (.slice b3 m.Call.Route.Cells.length c3) (.slice b4 m.Reply.Route.Cells.length c4)) :: pRow p tp s.sh db :: tabO H tp s.t :: dMap H db s :: R) (by (repeat (first | exact Sub.refl _ | exact Sub.nil _ | (apply sub_pick; (repeat (first | exact Has.here | apply Has.there)); skip) | apply Sub.drop))) ?_
  have hxm : fits m.Txn.Node ∧ fits m.Txn.Life ∧ fits m.Txn.Count := ⟨f4, f5, f6⟩
  by_cases k1 : m.Kind = 1
  · refine walk ?_
    refine ops_lkA2 (RV := rInt) (ag := false) (z := 0) rfl rfl (by repeat (first | exact Has.here | apply Has.there)) ?_
    rw [show (mget (m.Txn.Node, m.Txn.Life, m.Txn.Count) s.done).isSome = decide (isD s m.Txn) from bself _]
    refine walk ?_
    refine ex_if rfl (fun hd => ?_) (fun hd => ?_)
    · refine walk ?_
      refine finB [ownS rMsg0 19 216 43 H nilS [], ownS rRecV 9 120 53 H nilS [], bigL (ownV H) [], pRaw p s] ?_ (hs := ?_)
      · exact HearOQ.nil (by unfold hearOut; rw [if_neg hf', if_pos k1, if_pos hd]) (by unfold hearRec; rw [if_neg hf', if_pos k1, if_pos hd]) fun cs => by unfold hearS; rw [if_neg hf', if_pos k1, if_pos hd]
      · refine Sub.trans ?_ (Sub.trans (praw_shut (H1 := H) (H2 := H) (tp := tp) (db := db)) hnil)
        (repeat (first | exact Sub.refl _ | exact Sub.nil _ | (apply sub_pick; (repeat (first | exact Has.here | apply Has.there)); skip) | apply Sub.drop))
    refine walk ?_
    refine ops_L (L' := partO H p s :: row p6 43 (mCells s m 2 true) :: row p3 43 (m.cv (.slice b1 m.Work.Take.length c1) (.slice b2 m.Work.Drop.length c2) (.slice b3 m.Call.Route.Cells.length c3) (.slice b4 m.Reply.Route.Cells.length c4)) :: R) ?_ ?_
    · refine Sub.trans ?_ (part_shut (H1 := H) (H2 := H) (tp := tp) (db := db) (.refl _) (.refl _))
      (repeat (first | exact Sub.refl _ | exact Sub.nil _ | (apply sub_pick; (repeat (first | exact Has.here | apply Has.there)); skip) | apply Sub.drop))
    refine ops_call rfl rfl (is_spec (W0 := W0) (H := H) (p := p) (s := s) (x := m.Txn) (I0.t.ok (by omega)) I0.t.wd) fun r1 H1 B hl1 ⟨er, eB⟩ => ?_
    subst er eB
    refine walk ?_
    refine ex_if rfl (fun hp => ?_) (fun hp => ?_)
    · have hO : hearOut s m = [voteM s m true] := by unfold hearOut; rw [if_neg hf', if_pos k1, if_neg hd, decide_eq_true (p := _ ∨ _) (.inl hp)]
      have hR : hearRec s m = [] := by unfold hearRec; rw [if_neg hf', if_pos k1, if_neg hd, if_pos hp]
      have hS : ∀ cs, hearS s m cs = s := fun cs => by unfold hearS; rw [if_neg hf', if_pos k1, if_neg hd, if_pos hp]
      refine walk ?_
      refine ops_w rfl rfl (op_bs1 rfl rfl rfl fun b9 => ?_)
      refine walk ?_
      refine finB [ownS rMsg0 19 216 43 H1 (.slice (some ⟨b9, 0, none⟩) 1 1) [voteM s m true], ownS rRecV 9 120 53 H1 nilS [], bigL (ownV H1) [], pRaw p s] ?_ (hs := ?_)
      · exact HearOQ.one hO hR hS
      · refine Sub.trans (B := row b9 43 (mCells s m 2 true) :: partO H1 p s :: R) ?_ ((own1 (x := voteM s m true) (out0_reads I0.sh f1 fk2 hxm) c216).trans (Sub.cons (Sub.trans (sub_head part_raw) hnil1)))
        (repeat (first | exact Sub.refl _ | exact Sub.nil _ | (apply sub_pick; (repeat (first | exact Has.here | apply Has.there)); skip) | apply Sub.drop))
    refine ex_open (A := partO H1 p s) (σ := Nat × Nat) (B := fun a => [pRow p a.1 (PS.sh s) a.2, tabO H1 a.1 (PS.t s), dMap H1 a.2 s]) (p := fun _ => True) (by repeat (first | exact Has.here | apply Has.there)) (fun h ⟨tp, db, hbig⟩ => ⟨(tp, db), trivial, hbig⟩) fun ⟨tp, db⟩ _ => ?_
    dsimp only
    refine ex_L (L' := row p6 43 (mCells s m 2 true) :: row p3 43 (m.cv (.slice b1 m.Work.Take.length c1) (.slice b2 m.Work.Drop.length c2) (.slice b3 m.Call.Route.Cells.length c3) (.slice b4 m.Reply.Route.Cells.length c4)) :: pRow p tp s.sh db :: tabO H1 tp s.t :: dMap H1 db s :: R) (by (repeat (first | exact Sub.refl _ | exact Sub.nil _ | (apply sub_pick; (repeat (first | exact Has.here | apply Has.there)); skip) | apply Sub.drop))) ?_
    have hw1 : rWork H1 [I m.Work.Robot, .slice b1 m.Work.Take.length c1, .slice b2 m.Work.Drop.length c2] m.Work := ⟨_, _, rfl, f7, h1.mono hl1, h2.mono hl1⟩
    refine walk ?_
    refine ex_any 12 [row p3 43 (m.cv (.slice b1 m.Work.Take.length c1) (.slice b2 m.Work.Drop.length c2) (.slice b3 m.Call.Route.Cells.length c3) (.slice b4 m.Reply.Route.Cells.length c4)), pRow p tp s.sh db] ?_
    refine stepY 0 ?_; refine stepY 1 ?_; refine stepY 2 ?_; refine stepY 3 ?_; refine stepY 4 ?_; refine stepY 5 ?_; refine stepY 6 ?_; refine stepY 7 ?_
    refine any_know (A := tabO H1 tp s.t) (by repeat (first | exact Has.here | apply Has.there)) (fun h ht => tab_know ht) fun hWR => ?_
    refine any_L (L' := tRaw tp s.t :: row p6 43 (mCells s m 2 true) :: row p3 43 (m.cv (.slice b1 m.Work.Take.length c1) (.slice b2 m.Work.Drop.length c2) (.slice b3 m.Call.Route.Cells.length c3) (.slice b4 m.Reply.Route.Cells.length c4)) :: pRow p tp s.sh db :: dMap H1 db s :: R) ?_ ?_
    · refine Sub.trans ?_ (sub_head (A := tabO H1 tp s.t) tab_raw)
      (repeat (first | exact Sub.refl _ | exact Sub.nil _ | (apply sub_pick; (repeat (first | exact Has.here | apply Has.there)); skip) | apply Sub.drop))
    refine gny_call 8 rfl rfl rfl (prepareO_spec (W0 := W0) (H := H1) (p := tp) (s := s.t) (x := m.Txn) (w := m.Work) (cw := [I m.Work.Robot, .slice b1 m.Work.Take.length c1, .slice b2 m.Work.Drop.length c2]) hxm hw1 (by have := hm.w.ks_len; simp only [cap47]; omega) (fun q hq => ⟨_, hWR q hq⟩)) fun r2 H2 B hl2 ⟨er, hB⟩ => ?_
    subst er
    by_cases he : prepE s.t m.Txn m.Work = 0
    · obtain ⟨hne, _⟩ | ⟨_, d1, e1', d2, e2', eB⟩ := hB
      · exact absurd he hne
      subst eB
      refine ⟨(by (repeat (first | exact Sub.refl _ | exact Sub.nil _ | (apply sub_pick; (repeat (first | exact Has.here | apply Has.there)); skip) | apply Sub.drop))), ?_⟩
      refine stepY 9 ?_; refine stepY 10 ?_
      refine any_sta 11 rfl rfl rfl rfl (by simp) rfl ⟨(by (repeat (first | exact Sub.refl _ | exact Sub.nil _ | (apply sub_pick; (repeat (first | exact Has.here | apply Has.there)); skip) | apply Sub.drop))), ?_⟩
      refine any_rest rfl ?_
      have hO : hearOut s m = [voteM s m true] := by unfold hearOut; rw [if_neg hf', if_pos k1, if_neg hd, decide_eq_true (p := _ ∨ _) (.inr he)]
      have hR : hearRec s m = [recP m] := by unfold hearRec; rw [if_neg hf', if_pos k1, if_neg hd, if_neg hp, if_pos he]
      have hS : ∀ cs, hearS s m cs = ⟨s.sh, prepT s.t m.Txn m.Work cs, s.done⟩ := fun cs => by unfold hearS; rw [if_neg hf', if_pos k1, if_neg hd, if_neg hp, if_pos he]
      generalize hcsd : m.Work.cv (.slice d1 m.Work.Take.length e1') (.slice d2 m.Work.Drop.length e2') = cs
      refine ops_L (L' := ownS rRecV 9 120 53 H2 nilS [] :: row p6 43 (mCells s m 2 true) :: row p3 43 (m.cv (.slice b1 m.Work.Take.length c1) (.slice b2 m.Work.Drop.length c2) (.slice b3 m.Call.Route.Cells.length c3) (.slice b4 m.Reply.Route.Cells.length c4)) :: pRow p tp s.sh db :: tRaw tp (prepT s.t m.Txn m.Work cs) :: dMap H1 db s :: ownS rStr 1 16 9 H2 (.slice d1 m.Work.Take.length e1') m.Work.Take :: ownS rStr 1 16 9 H2 (.slice d2 m.Work.Drop.length e2') m.Work.Drop :: R) ?_ ?_
      · refine Sub.trans ?_ ownS_nil
        (repeat (first | exact Sub.refl _ | exact Sub.nil _ | (apply sub_pick; (repeat (first | exact Has.here | apply Has.there)); skip) | apply Sub.drop))
      have hl12 : H.le H2 := hl1.trans hl2
      refine walk ?_
      refine ex_any 9 [row p3 43 (m.cv (.slice b1 m.Work.Take.length c1) (.slice b2 m.Work.Drop.length c2) (.slice b3 m.Call.Route.Cells.length c3) (.slice b4 m.Reply.Route.Cells.length c4))] ?_
      refine stepY 0 ?_; refine stepY 1 ?_; refine stepY 2 ?_; refine stepY 3 ?_; refine stepY 4 ?_
      refine gny_call 5 rfl rfl rfl (pownO_spec (W0 := W0) (H := H2) (m := m.Work) (c := [I m.Work.Robot, .slice b1 m.Work.Take.length c1, .slice b2 m.Work.Drop.length c2]) ⟨_, _, rfl, f7, h1.mono hl12, h2.mono hl12⟩) fun r3 H3 B hl3 ⟨q1, g1, q2, g2, er, eB, eH⟩ => ?_
      subst er eB eH
      refine ⟨(by (repeat (first | exact Sub.refl _ | exact Sub.nil _ | (apply sub_pick; (repeat (first | exact Has.here | apply Has.there)); skip) | apply Sub.drop))), ?_⟩
      refine stepY 6 ?_
      refine any_app1 (y := (⟨recP m, q1, g1, q2, g2⟩ : RecV)) 7 8 rfl rfl rfl rfl (by simp only [cap47, List.length_nil]; omega) fun d3 e3 => ⟨(by (repeat (first | exact Sub.refl _ | exact Sub.nil _ | (apply sub_pick; (repeat (first | exact Has.here | apply Has.there)); skip) | apply Sub.drop))), ?_⟩
      refine any_rest rfl ?_
      refine walk ?_
      refine ops_w rfl rfl (op_bs1 rfl rfl rfl fun b9 => ?_)
      refine walk ?_
      refine finB [ownS rMsg0 19 216 43 H3 (.slice (some ⟨b9, 0, none⟩) 1 1) [voteM s m true], ownS rRecV 9 120 53 H3 (.slice d3 1 e3) [(⟨recP m, q1, g1, q2, g2⟩ : RecV)], bigL (ownV H3) [(⟨recP m, q1, g1, q2, g2⟩ : RecV)], pRaw p ⟨s.sh, prepT s.t m.Txn m.Work cs, s.done⟩, ownS rStr 1 16 9 H3 (.slice d1 m.Work.Take.length e1') m.Work.Take, ownS rStr 1 16 9 H3 (.slice d2 m.Work.Drop.length e2') m.Work.Drop] ?_ (hs := ?_)
      · refine ⟨_, _, [(⟨recP m, q1, g1, q2, g2⟩ : RecV)], rfl, hR.symm, fun y hy => ?_, .inr ⟨d1, e1', d2, e2', ⟨s.sh, prepT s.t m.Txn m.Work cs, s.done⟩, ?_, fun G hG hw => ?_, ?_⟩⟩
        · rw [List.mem_singleton] at hy
          subst hy
          exact fun H' z1 z2 => ⟨_, _, nilS, rfl, fk2, hxm.1, hxm.2.1, hxm.2.2, f7, z1, z2, SlB.nil⟩
        · rw [hcsd, hS]
        · exact prepT_works hG (hcsd ▸ hw)
        · rw [hO]; rfl
      · refine Sub.trans (B := row b9 43 (mCells s m 2 true) :: ownS rRecV 9 120 53 H3 (.slice d3 1 e3) [(⟨recP m, q1, g1, q2, g2⟩ : RecV)] :: bigL (ownV H3) [(⟨recP m, q1, g1, q2, g2⟩ : RecV)] :: pRaw p ⟨s.sh, prepT s.t m.Txn m.Work cs, s.done⟩ :: ownS rStr 1 16 9 H3 (.slice d1 m.Work.Take.length e1') m.Work.Take :: ownS rStr 1 16 9 H3 (.slice d2 m.Work.Drop.length e2') m.Work.Drop :: R) ?_ ((own1 (x := voteM s m true) (out0_reads I0.sh f1 fk2 hxm) c216).trans (Sub.refl _))
        refine Sub.trans (B := bigL (ownV H3) [(⟨recP m, q1, g1, q2, g2⟩ : RecV)] :: pRaw p ⟨s.sh, prepT s.t m.Txn m.Work cs, s.done⟩ :: row b9 43 (mCells s m 2 true) :: ownS rRecV 9 120 53 H3 (.slice d3 1 e3) [(⟨recP m, q1, g1, q2, g2⟩ : RecV)] :: ownS rStr 1 16 9 H3 (.slice d1 m.Work.Take.length e1') m.Work.Take :: ownS rStr 1 16 9 H3 (.slice d2 m.Work.Drop.length e2') m.Work.Drop :: R) ?_ (by (repeat (first | exact Sub.refl _ | exact Sub.nil _ | (apply sub_pick; (repeat (first | exact Has.here | apply Has.there)); skip) | apply Sub.drop)))
        refine Sub.trans ?_ (Sub.trans (ownV_shut (H := H3) (v := (⟨recP m, q1, g1, q2, g2⟩ : RecV))) bigL_one)
        refine Sub.trans ?_ (Sub.cons (Sub.cons (Sub.trans (Sub.trans (Sub.cons (Sub.cons (sub_head (d_flat (H := H1) (H' := Heap.empty))))) (praw_fold (p := p) (tp := tp) (db := db) (s := ⟨s.sh, prepT s.t m.Txn m.Work cs, s.done⟩))) (Sub.refl _))))
        (repeat (first | exact Sub.refl _ | exact Sub.nil _ | (apply sub_pick; (repeat (first | exact Has.here | apply Has.there)); skip) | apply Sub.drop))
    · obtain ⟨_, eB⟩ | ⟨hz, _⟩ := hB
      rotate_left
      · exact absurd hz he
      subst eB
      refine ⟨(by (repeat (first | exact Sub.refl _ | exact Sub.nil _ | (apply sub_pick; (repeat (first | exact Has.here | apply Has.there)); skip) | apply Sub.drop))), ?_⟩
      refine stepY 9 ?_; refine stepY 10 ?_
      refine any_sta 11 rfl rfl rfl rfl (by simp) rfl ⟨(by (repeat (first | exact Sub.refl _ | exact Sub.nil _ | (apply sub_pick; (repeat (first | exact Has.here | apply Has.there)); skip) | apply Sub.drop))), ?_⟩
      refine any_rest rfl ?_
      have hO : hearOut s m = [voteM s m false] := by unfold hearOut; rw [if_neg hf', if_pos k1, if_neg hd, decide_eq_false (p := _ ∨ _) (fun h => h.elim hp he)]
      have hR : hearRec s m = [] := by unfold hearRec; rw [if_neg hf', if_pos k1, if_neg hd, if_neg hp, if_neg he]
      have hS : ∀ cs, hearS s m cs = s := fun cs => by unfold hearS; rw [if_neg hf', if_pos k1, if_neg hd, if_neg hp, if_neg he]
      refine ops_L (L' := row p6 43 (mCells s m 2 false) :: row p3 43 (m.cv (.slice b1 m.Work.Take.length c1) (.slice b2 m.Work.Drop.length c2) (.slice b3 m.Call.Route.Cells.length c3) (.slice b4 m.Reply.Route.Cells.length c4)) :: pRow p tp s.sh db :: tRaw tp s.t :: dMap H1 db s :: R) (by (repeat (first | exact Sub.refl _ | exact Sub.nil _ | (apply sub_pick; (repeat (first | exact Has.here | apply Has.there)); skip) | apply Sub.drop))) ?_
      refine walk ?_
      refine ops_w rfl rfl (op_bs1 rfl rfl rfl fun b9 => ?_)
      refine walk ?_
      refine finB [ownS rMsg0 19 216 43 H2 (.slice (some ⟨b9, 0, none⟩) 1 1) [voteM s m false], ownS rRecV 9 120 53 H2 nilS [], bigL (ownV H2) [], pRaw p s] ?_ (hs := ?_)
      · exact HearOQ.one hO hR hS
      · refine Sub.trans (B := row b9 43 (mCells s m 2 false) :: pRow p tp s.sh db :: tRaw tp s.t :: dMap H1 db s :: R) ?_ ((own1 (x := voteM s m false) (out0_reads I0.sh f1 fk2 hxm) c216).trans (Sub.cons ((Sub.trans (Sub.cons (Sub.cons (sub_head (d_flat (H := H1) (H' := Heap.empty))))) (praw_fold (tp := tp) (db := db) (s := s))).trans hnil1)))
        (repeat (first | exact Sub.refl _ | exact Sub.nil _ | (apply sub_pick; (repeat (first | exact Has.here | apply Has.there)); skip) | apply Sub.drop))
  by_cases k3 : m.Kind = 3
  case neg =>
    refine walk ?_
    refine finB [ownS rMsg0 19 216 43 H nilS [], ownS rRecV 9 120 53 H nilS [], bigL (ownV H) [], pRaw p s] ?_ (hs := ?_)
    · exact HearOQ.nil (by unfold hearOut; rw [if_neg hf', if_neg k1, if_neg k3]) (by unfold hearRec; rw [if_neg hf', if_neg k1, if_neg k3]) fun cs => by unfold hearS; rw [if_neg hf', if_neg k1, if_neg k3]
    · refine Sub.trans ?_ (Sub.trans (praw_shut (H1 := H) (H2 := H) (tp := tp) (db := db)) hnil)
      (repeat (first | exact Sub.refl _ | exact Sub.nil _ | (apply sub_pick; (repeat (first | exact Has.here | apply Has.there)); skip) | apply Sub.drop))
  refine walk ?_
  refine ops_L (L' := partO H p s :: row p6 43 (mCells s m 4 false) :: row p3 43 (m.cv (.slice b1 m.Work.Take.length c1) (.slice b2 m.Work.Drop.length c2) (.slice b3 m.Call.Route.Cells.length c3) (.slice b4 m.Reply.Route.Cells.length c4)) :: R) ?_ ?_
  · refine Sub.trans ?_ (part_shut (H1 := H) (H2 := H) (tp := tp) (db := db) (.refl _) (.refl _))
    (repeat (first | exact Sub.refl _ | exact Sub.nil _ | (apply sub_pick; (repeat (first | exact Has.here | apply Has.there)); skip) | apply Sub.drop))
  refine ops_call rfl rfl (until_spec (W0 := W0) (H := H) (p := p) (s := s) (x := m.Txn) hP (I0.t.ok (by omega)) I0.t.wd (fun q hq => by have := (I0.t.ww _ _ (I0.t.recs hq)).1.1.ks_len; simp only [cap47]; omega)) fun r1 H1 B hl1 ⟨er, eB⟩ => ?_
  subst er eB
  have hO : hearOut s m = [ackM s m] := by unfold hearOut; rw [if_neg hf', if_neg k1, if_pos k3]
  refine walk ?_
  refine ex_open (A := partO H1 p s) (σ := Nat × Nat) (B := fun a => [pRow p a.1 (PS.sh s) a.2, tabO H1 a.1 (PS.t s), dMap H1 a.2 s]) (p := fun _ => True) (by repeat (first | exact Has.here | apply Has.there)) (fun h ⟨tp, db, hbig⟩ => ⟨(tp, db), trivial, hbig⟩) fun ⟨tp, db⟩ _ => ?_
  dsimp only
  refine ex_L (L' := ownS rRecV 9 120 53 H1 nilS [] :: row p6 43 (mCells s m 4 false) :: row p3 43 (m.cv (.slice b1 m.Work.Take.length c1) (.slice b2 m.Work.Drop.length c2) (.slice b3 m.Call.Route.Cells.length c3) (.slice b4 m.Reply.Route.Cells.length c4)) :: pRow p tp s.sh db :: tabO H1 tp s.t :: dMap H1 db s :: R) ?_ ?_
  · refine Sub.trans ?_ ownS_nil
    (repeat (first | exact Sub.refl _ | exact Sub.nil _ | (apply sub_pick; (repeat (first | exact Has.here | apply Has.there)); skip) | apply Sub.drop))
  refine ex_any 10 [row p3 43 (m.cv (.slice b1 m.Work.Take.length c1) (.slice b2 m.Work.Drop.length c2) (.slice b3 m.Call.Route.Cells.length c3) (.slice b4 m.Reply.Route.Cells.length c4)), pRow p tp s.sh db] ?_
  refine stepY 0 ?_; refine stepY 1 ?_; refine stepY 2 ?_; refine stepY 3 ?_; refine stepY 4 ?_; refine stepY 5 ?_; refine stepY 6 ?_; refine stepY 7 ?_
  refine gny_call 8 rfl rfl rfl (apply_spec (W0 := W0) (H := H1) (p := tp) (s := s.t) (x := m.Txn) (yes := m.Yes) (I0.t.ks_ok _)) fun r2 H2 B hl2 ⟨er, eB⟩ => ?_
  subst er eB
  refine ⟨(by (repeat (first | exact Sub.refl _ | exact Sub.nil _ | (apply sub_pick; (repeat (first | exact Has.here | apply Has.there)); skip) | apply Sub.drop))), ?_⟩
  refine stepY 9 ?_
  refine any_rest rfl ?_
  by_cases hp : isP s m.Txn
  · have hR : hearRec s m = [recA m] := by unfold hearRec; rw [if_neg hf', if_neg k1, if_pos k3, if_pos hp]
    have hS : ∀ cs, hearS s m cs = ⟨s.sh, applyT s.t m.Txn m.Yes, if m.Yes = true then mset m.Txn.k (untilS s m.Txn) s.done else s.done⟩ := fun cs => by unfold hearS; rw [if_neg hf', if_neg k1, if_pos k3, if_pos hp]
    rw [decide_eq_true (p := applyE s.t m.Txn = 0) (if_pos hp)]
    refine walk ?_
    refine ops_app1 (y := vA m) rfl rfl rfl rfl (by simp only [cap47, List.length_nil]; omega) fun d3 e3 => ?_
    refine walk ?_
    refine ex_ifb rfl Iff.rfl (fun hy => ?_) (fun hy => ?_)
    · rw [if_pos hy] at hS
      refine walk ?_
      refine ex_any 7 [row p3 43 (m.cv (.slice b1 m.Work.Take.length c1) (.slice b2 m.Work.Drop.length c2) (.slice b3 m.Call.Route.Cells.length c3) (.slice b4 m.Reply.Route.Cells.length c4)), pRow p tp s.sh db] ?_
      refine stepY 0 ?_; refine stepY 1 ?_; refine stepY 2 ?_; refine stepY 3 ?_; refine stepY 4 ?_; refine stepY 5 ?_; refine stepY 6 ?_
      refine any_rest rfl ?_
      refine ops_update (RV := rInt) (ag := false) (cs := [I (untilS s m.Txn)]) (u := untilS s m.Txn) rfl rfl ⟨rfl, untilS_fits⟩ (by repeat (first | exact Has.here | apply Has.there)) ?_
      refine walk ?_
      refine ops_w rfl rfl (op_bs1 rfl rfl rfl fun b9 => ?_)
      refine walk ?_
      refine finB [ownS rMsg0 19 216 43 H2 (.slice (some ⟨b9, 0, none⟩) 1 1) [ackM s m], ownS rRecV 9 120 53 H2 (.slice d3 1 e3) [vA m], bigL (ownV H2) [vA m], pRaw p ⟨s.sh, applyT s.t m.Txn m.Yes, mset m.Txn.k (untilS s m.Txn) s.done⟩] ?_ (hs := ?_)
      · exact HearOQ.app hxm hO hR hS rfl
      · refine Sub.trans (B := row b9 43 (mCells s m 4 false) :: ownS rRecV 9 120 53 H1 (.slice d3 1 e3) [vA m] :: pRow p tp s.sh db :: tabO H2 tp (applyT s.t m.Txn m.Yes) :: mapO ek3 rInt false H1 db (mset m.Txn.k (untilS s m.Txn) s.done) :: R) ?_ ((own1 (x := ackM s m) (out0_reads I0.sh f1 fk4 hxm) c216).trans (Sub.cons (Sub.trans (sub_flat H1 H2) (Sub.cons (Sub.trans (praw_shut (H1 := H2) (H2 := H1) (tp := tp) (db := db)) nil_vA)))))
        (repeat (first | exact Sub.refl _ | exact Sub.nil _ | (apply sub_pick; (repeat (first | exact Has.here | apply Has.there)); skip) | apply Sub.drop))
    · rw [if_neg (by simpa using hy)] at hS
      refine walk ?_
      refine ops_w rfl rfl (op_bs1 rfl rfl rfl fun b9 => ?_)
      refine walk ?_
      refine finB [ownS rMsg0 19 216 43 H2 (.slice (some ⟨b9, 0, none⟩) 1 1) [ackM s m], ownS rRecV 9 120 53 H2 (.slice d3 1 e3) [vA m], bigL (ownV H2) [vA m], pRaw p ⟨s.sh, applyT s.t m.Txn m.Yes, s.done⟩] ?_ (hs := ?_)
      · exact HearOQ.app hxm hO hR hS rfl
      · refine Sub.trans (B := row b9 43 (mCells s m 4 false) :: ownS rRecV 9 120 53 H1 (.slice d3 1 e3) [vA m] :: pRow p tp s.sh db :: tabO H2 tp (applyT s.t m.Txn m.Yes) :: dMap H1 db s :: R) ?_ ((own1 (x := ackM s m) (out0_reads I0.sh f1 fk4 hxm) c216).trans (Sub.cons (Sub.trans (sub_flat H1 H2) (Sub.cons (Sub.trans (praw_shut (H1 := H2) (H2 := H1) (tp := tp) (db := db)) nil_vA)))))
        (repeat (first | exact Sub.refl _ | exact Sub.nil _ | (apply sub_pick; (repeat (first | exact Has.here | apply Has.there)); skip) | apply Sub.drop))
  · have hR : hearRec s m = [] := by unfold hearRec; rw [if_neg hf', if_neg k1, if_pos k3, if_neg hp]
    have hS : ∀ cs, hearS s m cs = s := fun cs => by unfold hearS; rw [if_neg hf', if_neg k1, if_pos k3, if_neg hp]
    have hE : applyE s.t m.Txn = 4 := if_neg hp
    rw [decide_eq_false (p := applyE s.t m.Txn = 0) (by rw [hE]; decide), show applyT s.t m.Txn m.Yes = s.t from if_neg hp]
    refine walk ?_
    refine ops_w rfl rfl (op_bs1 rfl rfl rfl fun b9 => ?_)
    refine walk ?_
    refine finB [ownS rMsg0 19 216 43 H2 (.slice (some ⟨b9, 0, none⟩) 1 1) [ackM s m], ownS rRecV 9 120 53 H2 nilS [], bigL (ownV H2) [], pRaw p s] ?_ (hs := ?_)
    · exact HearOQ.one hO hR hS
    · refine Sub.trans (B := row b9 43 (mCells s m 4 false) :: pRow p tp s.sh db :: tabO H2 tp s.t :: dMap H1 db s :: R) ?_ ((own1 (x := ackM s m) (out0_reads I0.sh f1 fk4 hxm) c216).trans (Sub.cons ((praw_shut (H1 := H2) (H2 := H1) (tp := tp) (db := db)).trans hnil1)))
      (repeat (first | exact Sub.refl _ | exact Sub.nil _ | (apply sub_pick; (repeat (first | exact Has.here | apply Has.there)); skip) | apply Sub.drop))
end Go.Proofs.YtjgjcakeimkkdaaGreatDoor

set_option linter.unusedVariables false
set_option linter.unusedSimpArgs false
namespace Go.Proofs.YtjgjcakeimkkdaaGreatDoor
open Go Go.Sx Go.Proofs
set_option maxHeartbeats 4000000 in
theorem spoil_spec {W0 : World} {H HS1 HS2 : Heap} {rob : Int} {d1 d2 : Option Addr} {e1 e2 : Nat} {t dd : List ByteArray} :
    Ct Tryz.prog 21 #[.agg #[I rob, .slice d1 t.length e1, .slice d2 dd.length e2]] W0 H [ownS rStr 1 16 9 HS1 (.slice d1 t.length e1) t, ownS rStr 1 16 9 HS2 (.slice d2 dd.length e2) dd] (fun r H' B => B = [] ∧ H' = H) := by
  refine Ct.go (vs := [.agg #[I rob, .slice d1 t.length e1, .slice d2 dd.length e2]]) fun R => ?_
  have hq63 : (⟨#[63]⟩ : ByteArray).size ≤ cap47 := by decide
  have hq33 : (⟨#[33]⟩ : ByteArray).size ≤ cap47 := by decide
  refine ex_shape (.slice d1 t.length e1) fun _ _ e1' hf1 hg1 _ => ?_
  cases e1'
  refine ex_shape (.slice d2 dd.length e2) fun _ _ e2' hf2 hg2 _ => ?_
  cases e2'
  refine walk ?_
  refine ops_box rfl rfl fun p1 _ => ?_
  refine walk ?_
  refine ex_loop (σ := Nat × List ByteArray) (fun u => u.1 ≤ t.length ∧ u.2.length = t.length) (fun u => [(1, .pointer (some ⟨p1, 0, none⟩)), (6, I t.length), (7, I u.1)]) (fun _ => H) (fun u => ownS rStr 1 16 9 HS1 (.slice d1 t.length e1) u.2 :: ownS rStr 1 16 9 HS2 (.slice d2 dd.length e2) dd :: row p1 32 [I rob, .slice d1 t.length e1, .slice d2 dd.length e2] :: R) (fun u => t.length - u.1) (0, t) ⟨Nat.zero_le _, rfl⟩ fun ⟨i, ys⟩ ⟨hi0, hyl⟩ K hL => ?_
  simp only at hi0 hyl
  dsimp only
  refine walk ?_
  refine ex_if rfl (fun hi => ?_) (fun hi => ?_)
  · have hi1 : i < ys.length := by omega
    refine walk ?_
    refine ops_stS (y' := (⟨#[63]⟩ : ByteArray)) rfl rfl rfl ⟨rfl, hq63⟩ hi1 ?_
    refine walk ?_
    exact out_next hL (i + 1, ys.set i ⟨#[63]⟩) ⟨by simp only; omega, by simp only [List.length_set]; exact hyl⟩
  clear hL
  refine walk ?_
  refine ex_loop (σ := Nat × List ByteArray) (fun u => u.1 ≤ dd.length ∧ u.2.length = dd.length) (fun u => [(1, .pointer (some ⟨p1, 0, none⟩)), (17, I dd.length), (18, I u.1)]) (fun _ => H) (fun u => ownS rStr 1 16 9 HS2 (.slice d2 dd.length e2) u.2 :: row p1 32 [I rob, .slice d1 t.length e1, .slice d2 dd.length e2] :: R) (fun u => dd.length - u.1) (0, dd) ⟨Nat.zero_le _, rfl⟩ fun ⟨i, ys⟩ ⟨hi0, hyl⟩ K hL => ?_
  simp only at hi0 hyl
  dsimp only
  refine walk ?_
  refine ex_if rfl (fun hi => ?_) (fun hi => ?_)
  · have hi1 : i < ys.length := by omega
    refine walk ?_
    refine ops_stS (y' := (⟨#[33]⟩ : ByteArray)) rfl rfl rfl ⟨rfl, hq33⟩ hi1 ?_
    refine walk ?_
    exact out_next hL (i + 1, ys.set i ⟨#[33]⟩) ⟨by simp only; omega, by simp only [List.length_set]; exact hyl⟩
  clear hL
  refine walk ?_
  refine endn0 ?_
  exact ⟨rfl, rfl⟩
end Go.Proofs.YtjgjcakeimkkdaaGreatDoor
