/- Expire, walked. -/
import Derived.Test.YtlflbkpmfhhikaaGreatDoorPLF
import Derived.Test.YtlflbkpmfhhikaaGreatDoorPLY
set_option linter.unusedVariables false
set_option linter.unusedSimpArgs false
namespace Go.Proofs.YtlflbkpmfhhikaaGreatDoor
open Go Go.Sx Go.Proofs
theorem wks_read {H : Heap} {s : TS} (h : ∀ q ∈ s.works, ∃ cs, rCW H cs q.2) (k : K3) : rWork H ((mget k s.works).getD zCW).1 ((mget k s.works).getD zCW).2 := by
  cases hg : mget k s.works with
  | none => exact zCW_reads.2
  | some v => obtain ⟨cs, e, h⟩ := h (k, v) (mget_mem hg); subst e; exact h
def Work.ks (w : Work) : List ByteArray := w.Take ++ w.Drop
def dupT (l : List ByteArray) : Prop := (compT (sortT l)).length < l.length
instance {l : List ByteArray} : Decidable (dupT l) := by unfold dupT; infer_instance
def wayT (s : TS) (w : Work) : Nat → List ByteArray → Bool
  | _, [] => true
  | i, k :: l => !(mget k s.locked).isSome && (decide (w.Take.length ≤ i) || !(mget k s.held).isSome) && wayT s w (i + 1) l
theorem wayT_snoc {s : TS} {w : Work} {k : ByteArray} : ∀ {l : List ByteArray} {i : Nat}, wayT s w i (l ++ [k]) = (wayT s w i l && (!(mget k s.locked).isSome && (decide (w.Take.length ≤ i + l.length) || !(mget k s.held).isSome)))
  | [], i => by simp [wayT]
  | a :: l, i => by
    have ih := wayT_snoc (s := s) (w := w) (k := k) (l := l) (i := i + 1)
    simp only [List.cons_append, wayT, ih, List.length_cons, Bool.and_assoc, show i + 1 + l.length = i + (l.length + 1) by omega]
theorem up1 {H H' : Heap} {hb : Nat} {l : List (ByteArray × Int)} {L : List HProp} (hl : H.le H') : Sub (mapO Value.string rInt false H hb l :: L) (mapO Value.string rInt false H' hb l :: L) := mapO_up hl
theorem up2 {H H' : Heap} {hb : Nat} {l : List (ByteArray × Txn)} {L : List HProp} (hl : H.le H') : Sub (mapO Value.string rTxn true H hb l :: L) (mapO Value.string rTxn true H' hb l :: L) := mapO_up hl
theorem up3 {H H' : Heap} {hb : Nat} {l : List (K3 × CW)} {L : List HProp} (hl : H.le H') : Sub (mapO ek3 rCW true H hb l :: L) (mapO ek3 rCW true H' hb l :: L) := mapO_up hl
def lockAll (x : Txn) (ks : List ByteArray) (l : List (ByteArray × Txn)) : List (ByteArray × Txn) := ks.foldl (fun l k => mset k x l) l
theorem lockAll_snoc {x : Txn} {ks : List ByteArray} {k : ByteArray} {l : List (ByteArray × Txn)} : lockAll x (ks ++ [k]) l = mset k x (lockAll x ks l) := by simp [lockAll]
def prepE (s : TS) (x : Txn) (w : Work) : Int := if (mget x.k s.works).isSome = true then 2 else if dupT w.ks then 1 else if wayT s w 0 w.ks = true then 0 else 140
def prepT (s : TS) (x : Txn) (w : Work) (cs : List Value) : TS := ⟨s.held, lockAll x w.ks s.locked, mset x.k (cs, w) s.works⟩
set_option maxHeartbeats 4000000 in
theorem prepare_spec {W0 : World} {H : Heap} {p : Nat} {s : TS} {x : Txn} {w : Work} {cw : List Value} (hx : fits x.Node ∧ fits x.Life ∧ fits x.Count) (hw : rWork H cw w) (hwn : (w.ks.length) * 16 ≤ cap47) :
    Ct Tryz.prog 101 #[.pointer (some ⟨p, 0, none⟩), .agg x.cv.toArray, .agg cw.toArray] W0 H [tabO H p s] (fun r H' B => r = I (prepE s x w) ∧ ∃ cs, rWork H' cs w ∧ B = [tabO H' p (if prepE s x w = 0 then prepT s x w cs else s)]) := by
  refine Ct.go (vs := [.pointer (some ⟨p, 0, none⟩), .agg x.cv.toArray, .agg cw.toArray]) fun R => ?_
  obtain ⟨s1, s2, rfl, hrob, hs1, hs2⟩ := hw
  obtain ⟨b1, c1, rfl, hc1, hd1⟩ := hs1.1.shape
  obtain ⟨b2, c2, rfl, hc2, hd2⟩ := hs2.1.shape
  obtain ⟨x1, x2, x3⟩ := x
  dsimp only at hx
  refine ex_open (A := tabO H p s) (σ := Nat × Nat × Nat) (B := fun a => [tRow p a.1 a.2.1 a.2.2, hMap H a.1 s, lMap H a.2.1 s, wMap H a.2.2 s]) (p := fun _ => True) (by repeat (first | exact Has.here | apply Has.there)) (fun h ⟨hb, lb, wb, hbig⟩ => ⟨(hb, lb, wb), trivial, hbig⟩) fun ⟨hb, lb, wb⟩ _ => ?_
  dsimp only
  refine ex_know (A := wMap H wb s) (by repeat (first | exact Has.here | apply Has.there)) (fun h ho => mapO_know ho) fun hkw => ?_
  have hrd := wks_read hkw.1 (x1, x2, x3)
  refine walk ?_
  refine ops_box rfl rfl fun p4 _ => ?_
  refine ops_box rfl rfl fun p5 _ => ?_
  refine walk ?_
  refine ex_any 11 [wMap H wb s, tRow p hb lb wb, row p4 47 [I x1, I x2, I x3]] ?_
  refine stepY 0 ?_; refine stepY 1 ?_; refine stepY 2 ?_; refine stepY 3 ?_; refine stepY 4 ?_
  refine gny_lkA2 (RV := rCW) (ag := true) (z := zCW) 5 rfl rfl rfl (by repeat (first | exact Has.here | apply Has.there)) ?_
  obtain ⟨q1, q2, hq, _, hq1, hq2⟩ := hrd
  obtain ⟨g1, f1, rfl, _, _⟩ := hq1.1.shape
  obtain ⟨g2, f2, rfl, _, _⟩ := hq2.1.shape
  rw [hq]
  refine stepY 6 ?_
  refine gny_ext 7 rfl rfl rfl rfl ?_
  refine gny_ext 8 rfl rfl rfl rfl ?_
  refine gny_alloc 9 rfl rfl fun p7 _ => ?_
  refine any_sta 10 rfl rfl rfl rfl (by simp) rfl ⟨subA, ?_⟩
  refine any_rest rfl ?_
  rw [show (mget (x1, x2, x3) s.works).isSome = decide ((mget (x1, x2, x3) s.works).isSome = true) by simp]
  refine walk ?_
  refine ex_if rfl (fun hin => ?_) (fun hin => ?_)
  · refine walk ?_
    refine finB [tabO H p s] ?_ (hs := ?_)
    · have hE : prepE s ⟨x1, x2, x3⟩ w = 2 := if_pos hin
      refine ⟨by rw [hE], _, ⟨_, _, rfl, hrob, hs1, hs2⟩, ?_⟩
      rw [hE, if_neg (by decide)]
    · refine Sub.trans ?_ (tab_fold (hb := hb) (lb := lb) (wb := wb))
      exact subA
  refine walk ?_
  refine ops_bsN rfl rfl fun pb _ => ?_
  refine ops_frzR .here fun H1 hl1 hr1 => ?_
  have hsr : SlR (rSl rStr 1 16) 1 H1 (.slice (some ⟨pb, 0, none⟩) 2 2) [w.Take, w.Drop] := slr_of_hrow (R := rSl rStr 1 16) (xs := [w.Take, w.Drop]) hr1 (show RL (rSl rStr 1 16) H1 [.slice b1 w.Take.length c1, .slice b2 w.Drop.length c2] [w.Take, w.Drop] from ⟨[_], [_], rfl, ⟨_, rfl, hs1.mono hl1⟩, ⟨[_], [], rfl, ⟨_, rfl, hs2.mono hl1⟩, rfl⟩⟩) (by simp) (by omega)
  have hwn' : (w.Take.length + w.Drop.length) * 16 ≤ cap47 := by simpa [Work.ks] using hwn
  have hwn2 : w.Take.length + w.Drop.length ≤ 8796093022208 := by have := hwn'; simp only [cap47] at this; omega
  have hcat := concat_spec (W0 := W0) hsr (by simpa [sumLen] using hwn')
  rw [show [w.Take, w.Drop].flatten = w.ks by simp [Work.ks]] at hcat
  refine ops_call rfl rfl hcat fun r1 H2 B hl2 ⟨eB, eH⟩ => ?_
  subst eB eH
  refine walk ?_
  refine ops_call rfl rfl (sortS_ct (W0 := W0) (H := H2) (H0 := H2) (v := r1) (xs := w.ks)) fun r2 H3 B hl3 ⟨er, eB, eH⟩ => ?_
  subst er eB eH
  refine walk ?_
  refine ex_any 10 [row p5 50 (w.cv (.slice b1 w.Take.length c1) (.slice b2 w.Drop.length c2))] ?_
  refine stepY 0 ?_
  refine stepY 3 ?_; refine stepY 4 ?_; refine stepY 5 ?_; refine stepY 6 ?_; refine stepY 7 ?_; refine stepY 8 ?_; refine stepY 9 ?_
  refine gny_call 1 rfl rfl rfl (compactS_ct (W0 := W0) (H := H3) (H0 := H3) (v := r1) (xs := sortT w.ks)) fun r3 H4 B hl4 ⟨eB, eH⟩ => ?_
  subst eB eH
  refine ⟨subA, ?_⟩
  refine any_shape r3 fun d3 e3 e _ _ _ => ?_
  subst e
  refine stepY 2 ?_
  refine any_rest rfl ?_
  refine walk ?_
  have hdup : (((compT (sortT w.ks)).length : Nat) : Int) < (w.Take.length : Nat) + (w.Drop.length : Nat) ↔ dupT w.ks := by
    unfold dupT
    rw [show w.ks.length = w.Take.length + w.Drop.length by simp [Work.ks]]
    omega
  refine ex_if rfl (fun hdu => ?_) (fun hdu => ?_)
  · rw [hdup] at hdu
    refine walk ?_
    refine finB [tabO H4 p s] ?_ (hs := ?_)
    · have hE : prepE s ⟨x1, x2, x3⟩ w = 1 := (if_neg hin).trans (if_pos hdu)
      refine ⟨by rw [hE], _, ⟨_, _, rfl, hrob, hs1.mono (hl1.trans (hl2.trans (hl3.trans hl4))), hs2.mono (hl1.trans (hl2.trans (hl3.trans hl4)))⟩, ?_⟩
      rw [hE, if_neg (by decide)]
    · refine Sub.trans ?_ (Sub.trans (tab_fold (H := H) (hb := hb) (lb := lb) (wb := wb)) (tab_up (hl1.trans (hl2.trans (hl3.trans hl4)))))
      exact subA
  rw [hdup] at hdu
  refine walk ?_
  refine ops_bsN rfl rfl fun pc _ => ?_
  refine ops_frzR .here fun H5 hl5 hr5 => ?_
  have hl05 : H.le H5 := hl1.trans (hl2.trans (hl3.trans (hl4.trans hl5)))
  have hsr5 : SlR (rSl rStr 1 16) 1 H5 (.slice (some ⟨pc, 0, none⟩) 2 2) [w.Take, w.Drop] := slr_of_hrow (R := rSl rStr 1 16) (xs := [w.Take, w.Drop]) hr5 (show RL (rSl rStr 1 16) H5 [.slice b1 w.Take.length c1, .slice b2 w.Drop.length c2] [w.Take, w.Drop] from ⟨[_], [_], rfl, ⟨_, rfl, hs1.mono hl05⟩, ⟨[_], [], rfl, ⟨_, rfl, hs2.mono hl05⟩, rfl⟩⟩) (by simp) (by omega)
  have hcat5 := concat_spec (W0 := W0) hsr5 (by simpa [sumLen] using hwn')
  rw [show [w.Take, w.Drop].flatten = w.ks by simp [Work.ks]] at hcat5
  refine ops_call rfl rfl hcat5 fun r5 H6 B hl6 ⟨eB, eH⟩ => ?_
  subst eB eH
  refine ops_freeze r5 fun H7 hl7 hsl => ?_
  obtain ⟨bk, ck, rfl, hck, hdk⟩ := hsl.1.shape
  refine walk ?_
  refine ex_loop (σ := Nat) (fun k => k ≤ w.ks.length) (fun k => [(0, .pointer (some ⟨p, 0, none⟩)), (4, .pointer (some ⟨p4, 0, none⟩)), (5, .pointer (some ⟨p5, 0, none⟩)), (10, .bool (decide (wayT s w 0 (w.ks.take k) = true))), (53, .slice bk w.ks.length ck), (54, I w.ks.length), (55, I k)]) (fun _ => H7)
    (fun _ => row p5 50 (w.cv (.slice b1 w.Take.length c1) (.slice b2 w.Drop.length c2)) :: row p4 47 [I x1, I x2, I x3] :: tRow p hb lb wb :: hMap H hb s :: lMap H lb s :: wMap H wb s :: R) (fun k => w.ks.length - k) 0 (Nat.zero_le _) fun k hk0 K hL => ?_
  refine walk ?_
  refine ex_if rfl (fun hk => ?_) (fun hk => ?_)
  · have hk1 : k < w.ks.length := by omega
    have ht := List.take_succ_eq_append_getElem hk1
    have hwy := wayT_snoc (s := s) (w := w) (k := w.ks[k]) (l := w.ks.take k) (i := 0)
    rw [← ht, Nat.zero_add, List.length_take, Nat.min_eq_left hk0] at hwy
    refine walk ?_
    refine ops_ixp rfl rfl hsl.1 hk1 fun b o c hr hc => ?_
    obtain ⟨rfl, hsz⟩ := hc
    refine walk ?_
    refine ops_lkA2 (RV := rInt) (ag := false) (z := 0) rfl rfl (by repeat (first | exact Has.here | apply Has.there)) ?_
    refine walk ?_
    refine ops_lkA2 (RV := rTxn) (ag := true) (z := zTxn) rfl rfl (by repeat (first | exact Has.here | apply Has.there)) ?_
    refine walk ?_
    rw [show (mget w.ks[k] s.locked).isSome = decide ((mget w.ks[k] s.locked).isSome = true) by simp, show (mget w.ks[k] s.held).isSome = decide ((mget w.ks[k] s.held).isSome = true) by simp]
    refine ops_alloc rfl fun p15 _ => ?_
    refine walkG ?_
    have hd := bdec (p := (wayT s w 0 (w.ks.take k) = true ∧ ¬(mget w.ks[k] s.locked).isSome = true) ∧ ((w.Take.length : Int) ≤ (k : Int) ∨ ¬(mget w.ks[k] s.held).isSome = true)) (q := wayT s w 0 (w.ks.take (k + 1)) = true) (by
      rw [hwy]
      simp only [Bool.and_eq_true, Bool.or_eq_true, Bool.not_eq_true', decide_eq_true_eq, Bool.not_eq_true, Int.ofNat_le, and_assoc])
    rw [hd]
    exact out_next hL (k + 1) (by omega)
  clear hL
  obtain rfl : k = w.ks.length := by omega
  rw [List.take_length]
  refine walk ?_
  refine ex_if rfl (fun hfr => ?_) (fun hfr => ?_)
  · refine walk ?_
    refine finB [tabO H7 p s] ?_ (hs := ?_)
    · have hE : prepE s ⟨x1, x2, x3⟩ w = 140 := (if_neg hin).trans ((if_neg hdu).trans (if_neg hfr))
      refine ⟨by rw [hE], _, ⟨_, _, rfl, hrob, hs1.mono (hl05.trans (hl6.trans hl7)), hs2.mono (hl05.trans (hl6.trans hl7))⟩, ?_⟩
      rw [hE, if_neg (by decide)]
    · refine Sub.trans ?_ (Sub.trans (tab_fold (H := H) (hb := hb) (lb := lb) (wb := wb)) (tab_up (hl05.trans (hl6.trans hl7))))
      exact subA
  have hfr' : wayT s w 0 w.ks = true := by simpa using hfr
  have hE : prepE s ⟨x1, x2, x3⟩ w = 0 := (if_neg hin).trans ((if_neg hdu).trans (if_pos hfr'))
  refine walk ?_
  refine ex_any 7 [row p4 47 [I x1, I x2, I x3], row p5 50 (w.cv (.slice b1 w.Take.length c1) (.slice b2 w.Drop.length c2)), tRow p hb lb wb] ?_
  refine stepY 0 ?_; refine stepY 1 ?_; refine stepY 2 ?_; refine stepY 3 ?_; refine stepY 4 ?_; refine stepY 5 ?_
  have hl07 : H.le H7 := hl05.trans (hl6.trans hl7)
  refine gny_call 6 rfl rfl rfl (own_spec (m := w) ⟨_, _, rfl, hrob, hs1.mono hl07, hs2.mono hl07⟩) fun r6 H8 B hl8 ⟨cs, er, hcs, eB⟩ => ?_
  subst er eB
  refine ⟨subA, ?_⟩
  have hl08 : H.le H8 := hl07.trans hl8
  refine any_rest rfl ?_
  refine ops_L (L' := wMap H8 wb s :: hMap H8 hb s :: lMap H8 lb s :: row p5 50 (w.cv (.slice b1 w.Take.length c1) (.slice b2 w.Drop.length c2)) :: row p4 47 [I x1, I x2, I x3] :: tRow p hb lb wb :: R) ?_ ?_
  · refine Sub.trans ?_ (Sub.trans (up3 hl08) (Sub.cons (Sub.trans (up1 hl08) (Sub.cons (up2 hl08)))))
    exact subA
  refine ops_update (RV := rCW) (ag := true) (cs := cs) (u := (cs, w)) rfl rfl ⟨rfl, hcs⟩ (by repeat (first | exact Has.here | apply Has.there)) ?_
  refine walk ?_
  refine ops_bsN rfl rfl fun pd _ => ?_
  refine ops_frzR .here fun H9 hl9 hr9 => ?_
  have hl09 : H.le H9 := hl08.trans hl9
  have hsr9 : SlR (rSl rStr 1 16) 1 H9 (.slice (some ⟨pd, 0, none⟩) 2 2) [w.Take, w.Drop] := slr_of_hrow (R := rSl rStr 1 16) (xs := [w.Take, w.Drop]) hr9 (show RL (rSl rStr 1 16) H9 [.slice b1 w.Take.length c1, .slice b2 w.Drop.length c2] [w.Take, w.Drop] from ⟨[_], [_], rfl, ⟨_, rfl, hs1.mono hl09⟩, ⟨[_], [], rfl, ⟨_, rfl, hs2.mono hl09⟩, rfl⟩⟩) (by simp) (by omega)
  have hcat9 := concat_spec (W0 := W0) hsr9 (by simpa [sumLen] using hwn')
  rw [show [w.Take, w.Drop].flatten = w.ks by simp [Work.ks]] at hcat9
  refine ops_call rfl rfl hcat9 fun r9 H10 B hl10 ⟨eB, eH⟩ => ?_
  subst eB eH
  refine ops_freeze r9 fun H11 hl11 hsm => ?_
  obtain ⟨bm, cm, rfl, hcm, hdm⟩ := hsm.1.shape
  refine walk ?_
  refine ex_loop (σ := Nat) (fun k => k ≤ w.ks.length) (fun k => [(0, .pointer (some ⟨p, 0, none⟩)), (4, .pointer (some ⟨p4, 0, none⟩)), (109, .slice bm w.ks.length cm), (110, I w.ks.length), (111, I k)]) (fun _ => H11)
    (fun k => mapO Value.string rTxn true H8 lb (lockAll ⟨x1, x2, x3⟩ (w.ks.take k) s.locked) :: row p4 47 [I x1, I x2, I x3] :: tRow p hb lb wb :: mapO ek3 rCW true H8 wb (mset (x1, x2, x3) (cs, w) s.works) :: hMap H8 hb s :: R) (fun k => w.ks.length - k) 0 (Nat.zero_le _) fun k hk0 K hL => ?_
  refine walk ?_
  refine ex_if rfl (fun hk => ?_) (fun hk => ?_)
  · have hk1 : k < w.ks.length := by omega
    have ht := List.take_succ_eq_append_getElem hk1
    refine walk ?_
    refine ops_ixp rfl rfl hsm.1 hk1 fun b o c hr hc => ?_
    obtain ⟨rfl, hsz⟩ := hc
    refine walk ?_
    refine ex_any 6 [row p4 47 [I x1, I x2, I x3], tRow p hb lb wb] ?_
    refine stepY 0 ?_; refine stepY 1 ?_; refine stepY 2 ?_; refine stepY 3 ?_; refine stepY 4 ?_; refine stepY 5 ?_
    refine any_rest rfl ?_
    refine ops_update (RV := rTxn) (ag := true) (cs := [I x1, I x2, I x3]) (u := ⟨x1, x2, x3⟩) rfl rfl ⟨rfl, hx⟩ (by repeat (first | exact Has.here | apply Has.there)) ?_
    refine walk ?_
    have hse : lockAll ⟨x1, x2, x3⟩ (w.ks.take (k + 1)) s.locked = mset w.ks[k] ⟨x1, x2, x3⟩ (lockAll ⟨x1, x2, x3⟩ (w.ks.take k) s.locked) := by rw [ht, lockAll_snoc]
    rw [← hse]
    exact out_next hL (k + 1) (by omega)
  clear hL
  obtain rfl : k = w.ks.length := by omega
  rw [List.take_length]
  refine walk ?_
  refine finB [tabO H11 p (prepT s ⟨x1, x2, x3⟩ w cs)] ?_ (hs := ?_)
  · refine ⟨by rw [hE], cs, RdOk.mono (R := rWork) (hl9.trans (hl10.trans hl11)) hcs, ?_⟩
    rw [hE, if_pos rfl]
  · refine Sub.trans ?_ (Sub.trans (tab_fold (H := H8) (s := prepT s ⟨x1, x2, x3⟩ w cs) (hb := hb) (lb := lb) (wb := wb)) (tab_up (hl9.trans (hl10.trans hl11))))
    exact subA
def unlockAll (ks : List ByteArray) (l : List (ByteArray × Txn)) : List (ByteArray × Txn) := ks.foldl (fun l k => mdel k l) l
theorem unlockAll_snoc {ks : List ByteArray} {k : ByteArray} {l : List (ByteArray × Txn)} : unlockAll (ks ++ [k]) l = mdel k (unlockAll ks l) := by simp [unlockAll]
def dropAll (r : Int) (ks : List ByteArray) (l : List (ByteArray × Int)) : List (ByteArray × Int) := ks.foldl (fun l k => if (mget k l).isSome = true ∧ (mget k l).getD 0 = r then mdel k l else l) l
theorem dropAll_snoc {r : Int} {ks : List ByteArray} {k : ByteArray} {l : List (ByteArray × Int)} : dropAll r (ks ++ [k]) l = if (mget k (dropAll r ks l)).isSome = true ∧ (mget k (dropAll r ks l)).getD 0 = r then mdel k (dropAll r ks l) else dropAll r ks l := by unfold dropAll; rw [List.foldl_append]; rfl
def takeAll (r : Int) (ks : List ByteArray) (l : List (ByteArray × Int)) : List (ByteArray × Int) := ks.foldl (fun l k => mset k r l) l
theorem takeAll_snoc {r : Int} {ks : List ByteArray} {k : ByteArray} {l : List (ByteArray × Int)} : takeAll r (ks ++ [k]) l = mset k r (takeAll r ks l) := by simp [takeAll]
def applyE (s : TS) (x : Txn) : Int := if (mget x.k s.works).isSome = true then 0 else 4
def applyW (s : TS) (x : Txn) (yes : Bool) (w : Work) : TS := ⟨if yes = true then takeAll w.Robot w.Take (dropAll w.Robot w.Drop s.held) else s.held, unlockAll w.ks s.locked, mdel x.k s.works⟩
def applyT (s : TS) (x : Txn) (yes : Bool) : TS := if (mget x.k s.works).isSome = true then applyW s x yes ((mget x.k s.works).getD zCW).2 else s
set_option maxHeartbeats 4000000 in
theorem apply_spec {W0 : World} {H : Heap} {p : Nat} {s : TS} {x : Txn} {yes : Bool} (hwn : ((mget x.k s.works).getD zCW).2.ks.length * 16 ≤ cap47) :
    Ct Tryz.prog 104 #[.pointer (some ⟨p, 0, none⟩), .agg x.cv.toArray, .bool yes] W0 H [tabO H p s] (fun r H' B => r = I (applyE s x) ∧ B = [tabO H' p (applyT s x yes)]) := by
  refine Ct.go (vs := [.pointer (some ⟨p, 0, none⟩), .agg x.cv.toArray, .bool yes]) fun R => ?_
  obtain ⟨x1, x2, x3⟩ := x
  refine ex_open (A := tabO H p s) (σ := Nat × Nat × Nat) (B := fun a => [tRow p a.1 a.2.1 a.2.2, hMap H a.1 s, lMap H a.2.1 s, wMap H a.2.2 s]) (p := fun _ => True) (by repeat (first | exact Has.here | apply Has.there)) (fun h ⟨hb, lb, wb, hbig⟩ => ⟨(hb, lb, wb), trivial, hbig⟩) fun ⟨hb, lb, wb⟩ _ => ?_
  dsimp only
  refine ex_know (A := wMap H wb s) (by repeat (first | exact Has.here | apply Has.there)) (fun h ho => mapO_know ho) fun hkw => ?_
  have hrd := wks_read hkw.1 (x1, x2, x3)
  refine walk ?_
  refine ops_box rfl rfl fun p4 _ => ?_
  refine walk ?_
  refine ex_any 11 [wMap H wb s, tRow p hb lb wb, row p4 47 [I x1, I x2, I x3]] ?_
  refine stepY 0 ?_; refine stepY 1 ?_; refine stepY 2 ?_; refine stepY 3 ?_; refine stepY 4 ?_
  refine gny_lkA2 (RV := rCW) (ag := true) (z := zCW) 5 rfl rfl rfl (by repeat (first | exact Has.here | apply Has.there)) ?_
  have hE : applyE s ⟨x1, x2, x3⟩ = if (mget (x1, x2, x3) s.works).isSome = true then 0 else 4 := rfl
  have hT : applyT s ⟨x1, x2, x3⟩ yes = if (mget (x1, x2, x3) s.works).isSome = true then applyW s ⟨x1, x2, x3⟩ yes ((mget (x1, x2, x3) s.works).getD zCW).2 else s := rfl
  change ((mget (x1, x2, x3) s.works).getD zCW).2.ks.length * 16 ≤ cap47 at hwn
  rw [hE, hT]
  clear hE hT
  generalize (mget (x1, x2, x3) s.works).getD zCW = q at hrd hwn ⊢
  obtain ⟨qc, w⟩ := q
  dsimp only at hrd hwn
  obtain ⟨q1, q2, rfl, hrob, hs1, hs2⟩ := hrd
  obtain ⟨b1, c1, rfl, _, _⟩ := hs1.1.shape
  obtain ⟨b2, c2, rfl, _, _⟩ := hs2.1.shape
  dsimp only
  refine stepY 6 ?_
  refine gny_ext 7 rfl rfl rfl rfl ?_
  refine gny_ext 8 rfl rfl rfl rfl ?_
  refine gny_alloc 9 rfl rfl fun p7 _ => ?_
  refine any_sta 10 rfl rfl rfl rfl (by simp) (show _ = w.cv (.slice b1 w.Take.length c1) (.slice b2 w.Drop.length c2) from rfl) ⟨subA, ?_⟩
  refine any_rest rfl ?_
  rw [show (mget (x1, x2, x3) s.works).isSome = decide ((mget (x1, x2, x3) s.works).isSome = true) by simp]
  refine walk ?_
  refine ex_if rfl (fun hin => ?_) (fun hin => ?_)
  · refine walk ?_
    have hin' : ¬ (mget (x1, x2, x3) s.works).isSome = true := hin
    refine finB [tabO H p s] ?_ (hs := ?_)
    · exact ⟨by simp [hin'], by simp [hin']⟩
    · refine Sub.trans ?_ (tab_fold (hb := hb) (lb := lb) (wb := wb))
      exact subA
  have hin' : (mget (x1, x2, x3) s.works).isSome = true := Classical.byContradiction hin
  refine walk ?_
  refine ex_any 5 [tRow p hb lb wb, row p4 47 [I x1, I x2, I x3]] ?_
  refine stepY 0 ?_; refine stepY 1 ?_; refine stepY 2 ?_; refine stepY 3 ?_; refine stepY 4 ?_
  refine any_rest rfl ?_
  refine ops_delete (ek := ek3) rfl (by repeat (first | exact Has.here | apply Has.there)) ?_
  refine walk ?_
  refine ops_bsN rfl rfl fun pb _ => ?_
  refine ops_frzR .here fun H1 hl1 hr1 => ?_
  have hwn' : (w.Take.length + w.Drop.length) * 16 ≤ cap47 := by simpa [Work.ks] using hwn
  have hsr : SlR (rSl rStr 1 16) 1 H1 (.slice (some ⟨pb, 0, none⟩) 2 2) [w.Take, w.Drop] := slr_of_hrow (R := rSl rStr 1 16) (xs := [w.Take, w.Drop]) hr1 (show RL (rSl rStr 1 16) H1 [.slice b1 w.Take.length c1, .slice b2 w.Drop.length c2] [w.Take, w.Drop] from ⟨[_], [_], rfl, ⟨_, rfl, hs1.mono hl1⟩, ⟨[_], [], rfl, ⟨_, rfl, hs2.mono hl1⟩, rfl⟩⟩) (by simp) (by omega)
  have hcat := concat_spec (W0 := W0) hsr (by simpa [sumLen] using hwn')
  rw [show [w.Take, w.Drop].flatten = w.ks by simp [Work.ks]] at hcat
  refine ops_call rfl rfl hcat fun r1 H2 B hl2 ⟨eB, eH⟩ => ?_
  subst eB eH
  refine ops_freeze r1 fun H3 hl3 hsl => ?_
  obtain ⟨bk, ck, rfl, hck, hdk⟩ := hsl.1.shape
  have hl03 : H.le H3 := hl1.trans (hl2.trans hl3)
  refine walk ?_
  refine ex_loop (σ := Nat) (fun k => k ≤ w.ks.length) (fun k => [(0, .pointer (some ⟨p, 0, none⟩)), (2, .bool yes), (7, .pointer (some ⟨p7, 0, none⟩)), (38, .slice bk w.ks.length ck), (39, I w.ks.length), (40, I k)]) (fun _ => H3)
    (fun k => mapO Value.string rTxn true H lb (unlockAll (w.ks.take k) s.locked) :: row p7 50 (w.cv (.slice b1 w.Take.length c1) (.slice b2 w.Drop.length c2)) :: tRow p hb lb wb :: mapO ek3 rCW true H wb (mdel (x1, x2, x3) s.works) :: hMap H hb s :: R) (fun k => w.ks.length - k) 0 (Nat.zero_le _) fun k hk0 K hL => ?_
  refine walk ?_
  refine ex_if rfl (fun hk => ?_) (fun hk => ?_)
  · have hk1 : k < w.ks.length := by omega
    have ht := List.take_succ_eq_append_getElem hk1
    refine walk ?_
    refine ops_ixp rfl rfl hsl.1 hk1 fun b o c hr hc => ?_
    obtain ⟨rfl, hsz⟩ := hc
    refine walk ?_
    refine ops_delete (ek := Value.string) rfl (by repeat (first | exact Has.here | apply Has.there)) ?_
    refine walk ?_
    have hse : unlockAll (w.ks.take (k + 1)) s.locked = mdel w.ks[k] (unlockAll (w.ks.take k) s.locked) := by rw [ht, unlockAll_snoc]
    rw [← hse]
    exact out_next hL (k + 1) (by omega)
  clear hL
  obtain rfl : k = w.ks.length := by omega
  rw [List.take_length]
  cases yes with
  | false =>
    refine walk ?_
    refine finB [tabO H3 p (applyW s ⟨x1, x2, x3⟩ false w)] ?_ (hs := ?_)
    · exact ⟨by simp [hin'], by simp [hin']⟩
    · refine Sub.trans ?_ (Sub.trans (tab_fold (H := H) (s := applyW s ⟨x1, x2, x3⟩ false w) (hb := hb) (lb := lb) (wb := wb)) (tab_up hl03))
      exact subA
  | true =>
    refine walk ?_
    refine ex_loop (σ := Nat) (fun k => k ≤ w.Drop.length) (fun k => [(0, .pointer (some ⟨p, 0, none⟩)), (7, .pointer (some ⟨p7, 0, none⟩)), (53, .slice b2 w.Drop.length c2), (54, I w.Drop.length), (55, I k)]) (fun _ => H3)
      (fun k => mapO Value.string rInt false H hb (dropAll w.Robot (w.Drop.take k) s.held) :: row p7 50 (w.cv (.slice b1 w.Take.length c1) (.slice b2 w.Drop.length c2)) :: tRow p hb lb wb :: mapO ek3 rCW true H wb (mdel (x1, x2, x3) s.works) :: mapO Value.string rTxn true H lb (unlockAll w.ks s.locked) :: R) (fun k => w.Drop.length - k) 0 (Nat.zero_le _) fun k hk0 K hL => ?_
    refine walk ?_
    refine ex_if rfl (fun hk => ?_) (fun hk => ?_)
    · have hk1 : k < w.Drop.length := by omega
      have ht := List.take_succ_eq_append_getElem hk1
      have hse := dropAll_snoc (r := w.Robot) (ks := w.Drop.take k) (k := w.Drop[k]) (l := s.held)
      rw [← ht] at hse
      refine walk ?_
      refine ops_ixp rfl rfl (hs2.mono hl03).1 hk1 fun b o c hr hc => ?_
      obtain ⟨rfl, hsz⟩ := hc
      refine walk ?_
      refine ops_lkA2 (RV := rInt) (ag := false) (z := 0) rfl rfl (by repeat (first | exact Has.here | apply Has.there)) ?_
      rw [show (mget w.Drop[k] (dropAll w.Robot (w.Drop.take k) s.held)).isSome = decide ((mget w.Drop[k] (dropAll w.Robot (w.Drop.take k) s.held)).isSome = true) by simp]
      refine walkG ?_
      refine ex_if rfl (fun hq => ?_) (fun hq => ?_)
      · rw [if_pos hq] at hse
        refine walk ?_
        refine ops_delete (ek := Value.string) rfl (by repeat (first | exact Has.here | apply Has.there)) ?_
        refine walk ?_
        rw [← hse]
        exact out_next hL (k + 1) (by omega)
      · rw [if_neg hq] at hse
        refine walk ?_
        rw [← hse]
        exact out_next hL (k + 1) (by omega)
    clear hL
    obtain rfl : k = w.Drop.length := by omega
    rw [List.take_length]
    refine walk ?_
    refine ex_loop (σ := Nat) (fun k => k ≤ w.Take.length) (fun k => [(0, .pointer (some ⟨p, 0, none⟩)), (7, .pointer (some ⟨p7, 0, none⟩)), (82, .slice b1 w.Take.length c1), (83, I w.Take.length), (84, I k)]) (fun _ => H3)
      (fun k => mapO Value.string rInt false H hb (takeAll w.Robot (w.Take.take k) (dropAll w.Robot w.Drop s.held)) :: row p7 50 (w.cv (.slice b1 w.Take.length c1) (.slice b2 w.Drop.length c2)) :: tRow p hb lb wb :: mapO ek3 rCW true H wb (mdel (x1, x2, x3) s.works) :: mapO Value.string rTxn true H lb (unlockAll w.ks s.locked) :: R) (fun k => w.Take.length - k) 0 (Nat.zero_le _) fun k hk0 K hL => ?_
    refine walk ?_
    refine ex_if rfl (fun hk => ?_) (fun hk => ?_)
    · have hk1 : k < w.Take.length := by omega
      have ht := List.take_succ_eq_append_getElem hk1
      have hse := takeAll_snoc (r := w.Robot) (ks := w.Take.take k) (k := w.Take[k]) (l := dropAll w.Robot w.Drop s.held)
      rw [← ht] at hse
      refine walk ?_
      refine ops_ixp rfl rfl (hs1.mono hl03).1 hk1 fun b o c hr hc => ?_
      obtain ⟨rfl, hsz⟩ := hc
      refine walk ?_
      refine ex_any 7 [tRow p hb lb wb, row p7 50 (w.cv (.slice b1 w.Take.length c1) (.slice b2 w.Drop.length c2))] ?_
      refine stepY 0 ?_; refine stepY 1 ?_; refine stepY 2 ?_; refine stepY 3 ?_; refine stepY 4 ?_; refine stepY 5 ?_; refine stepY 6 ?_
      refine any_rest rfl ?_
      refine ops_update (RV := rInt) (ag := false) (cs := [I w.Robot]) (u := w.Robot) rfl rfl ⟨rfl, hrob⟩ (by repeat (first | exact Has.here | apply Has.there)) ?_
      refine walk ?_
      rw [← hse]
      exact out_next hL (k + 1) (by omega)
    clear hL
    obtain rfl : k = w.Take.length := by omega
    rw [List.take_length]
    refine walk ?_
    refine finB [tabO H3 p (applyW s ⟨x1, x2, x3⟩ true w)] ?_ (hs := ?_)
    · exact ⟨by simp [hin'], by simp [hin']⟩
    · refine Sub.trans ?_ (Sub.trans (tab_fold (H := H) (s := applyW s ⟨x1, x2, x3⟩ true w) (hb := hb) (lb := lb) (wb := wb)) (tab_up hl03))
      exact subA
end Go.Proofs.YtlflbkpmfhhikaaGreatDoor
namespace Go.Proofs.YtlflbkpmfhhikaaGreatDoor
open Go Go.Sx Go.Proofs
open Go Go.Sx Go.Proofs
open Go Go.Sx Go.Proofs
open Go Go.Sx Go.Proofs
open Go Go.Sx Go.Proofs
end Go.Proofs.YtlflbkpmfhhikaaGreatDoor
namespace Go.Proofs.YtlflbkpmfhhikaaGreatDoor
open Go Go.Sx Go.Proofs
instance : LawfulBEq ByteArray where
  eq_of_beq h := by rw [ba_beq] at h; simpa using h
  rfl := fun {a} => by rw [ba_beq]; simp
theorem rise_eq {α : Type} {lt : α → α → Prop} (irr : ∀ a, ¬ lt a a) (asy : ∀ a b, lt a b → ¬ lt b a) : ∀ {l l' : List α}, l.Pairwise lt → l'.Pairwise lt → (∀ a, a ∈ l ↔ a ∈ l') → l = l'
  | [], [], _, _, _ => rfl
  | [], b :: l', _, _, h => absurd ((h b).2 (by simp)) (by simp)
  | a :: l, [], _, _, h => absurd ((h a).1 (by simp)) (by simp)
  | a :: l, b :: l', h1, h2, h => by
    rw [List.pairwise_cons] at h1 h2
    have hab : a = b := by
      rcases List.mem_cons.1 ((h a).1 (by simp)) with e | e
      · exact e
      · rcases List.mem_cons.1 ((h b).2 (by simp)) with e' | e'
        · exact e'.symm
        · exact absurd (h1.1 b e') (asy _ _ (h2.1 a e))
    subst hab
    refine congrArg _ (rise_eq irr asy h1.2 h2.2 fun x => ?_)
    have hx := h x
    simp only [List.mem_cons] at hx
    constructor
    · intro hm
      rcases hx.1 (.inr hm) with e | e
      · subst e; exact absurd (h1.1 x hm) (irr x)
      · exact e
    · intro hm
      rcases hx.2 (.inr hm) with e | e
      · subst e; exact absurd (h2.1 x hm) (irr x)
      · exact e
structure HSpec (l : List Hold) (f : ByteArray → Option Int) : Prop where
  rise : l.Pairwise fun a b => SLt a.Key b.Key
  mem : ∀ h, h ∈ l ↔ f h.Key = some h.Robot
theorem HSpec.uniq {l l' : List Hold} {f : ByteArray → Option Int} (h : HSpec l f) (h' : HSpec l' f) : l = l' :=
  rise_eq (lt := fun a b : Hold => SLt a.Key b.Key) (fun _ => slt_irr) (fun _ _ => slt_asymm) h.rise h'.rise fun a => by rw [h.mem, h'.mem]
theorem HSpec.congr {l : List Hold} {f g : ByteArray → Option Int} (h : HSpec l f) (e : ∀ k, f k = g k) : HSpec l g := by
  obtain rfl : f = g := funext e
  exact h
theorem sortT_rise {xs : List ByteArray} (h : xs.Nodup) : (sortT xs).Pairwise SLt := by
  have tr : ∀ a b c : List UInt8, leB a b = true → leB b c = true → leB a c = true := fun a b c h1 h2 => by
    simp only [leB, decide_eq_true_eq] at *
    exact List.le_trans h1 h2
  have to : ∀ a b : List UInt8, (leB a b || leB b a) = true := fun a b => by
    simp only [leB, Bool.or_eq_true, decide_eq_true_eq]
    exact List.le_total a b
  have h1 := List.pairwise_mergeSort tr to (xs.map fun s => s.data.toList)
  have h2 : ((xs.map fun s => s.data.toList).mergeSort leB).Nodup := by
    refine (List.mergeSort_perm _ _).nodup_iff.2 ?_
    rw [List.nodup_iff_pairwise_ne, List.pairwise_map]
    exact (List.nodup_iff_pairwise_ne.1 h).imp fun h e => h (text_ext e)
  unfold sortT
  rw [List.pairwise_map]
  rw [List.nodup_iff_pairwise_ne] at h2
  refine (h1.and h2).imp fun {a b} ⟨e1, e2⟩ => ?_
  rw [slt_iff]
  simp only [leB, decide_eq_true_eq] at e1
  have e3 : (sb a).data.toList = a := by simp [sb]
  have e4 : (sb b).data.toList = b := by simp [sb]
  rw [e3, e4]
  by_cases h : a < b
  · exact h
  · exact absurd (List.le_antisymm e1 (List.not_lt.1 h)) e2
theorem mget_iff {κ ν : Type} [DecidableEq κ] {m : List (κ × ν)} (hn : (m.map (·.1)).Nodup) {k : κ} {v : ν} : mget k m = some v ↔ (k, v) ∈ m := ⟨mget_mem, mget_of_mem hn⟩
theorem mget_key {κ ν : Type} [DecidableEq κ] {m : List (κ × ν)} {k : κ} : k ∈ m.map (·.1) ↔ ∃ v, mget k m = some v := by
  have h := mget_none (k := k) (m := m)
  cases hm : mget k m with
  | none => exact ⟨fun h' => absurd h' (h.1 hm), fun ⟨v, e⟩ => (by cases e)⟩
  | some v => exact ⟨fun _ => ⟨v, rfl⟩, fun _ => Classical.byContradiction fun hc => by rw [h.2 hc] at hm; cases hm⟩
theorem holdsL_spec {s : TS} (hn : (s.held.map (·.1)).Nodup) : HSpec (holdsL s) (fun k => mget k s.held) := by
  refine ⟨?_, fun h => ?_⟩
  · unfold holdsL
    rw [List.pairwise_map]
    exact (sortT_rise hn).imp fun h => h
  · unfold holdsL
    rw [List.mem_map]
    constructor
    · rintro ⟨k, hk, rfl⟩
      obtain ⟨v, hv⟩ := mget_key.1 (mem_sortT.1 hk)
      simp only [holdOf, hv, Option.getD_some]
    · intro hg
      refine ⟨h.Key, mem_sortT.2 (mget_key.2 ⟨_, hg⟩), ?_⟩
      simp only [holdOf, hg, Option.getD_some]
def recW (x : Txn) (w : Work) : Rec := ⟨2, x, w, false, []⟩
structure PSpec (l : List Rec) (g : K3 → Option Work) : Prop where
  rise : l.Pairwise fun a b => ltK a.Txn.k b.Txn.k
  mem : ∀ q, q ∈ l ↔ ∃ w, g q.Txn.k = some w ∧ q = recW q.Txn w
theorem ltK_irr {a : K3} : ¬ ltK a a := by unfold ltK; omega
theorem ltK_asy {a b : K3} (h : ltK a b) : ¬ ltK b a := by unfold ltK at *; omega
theorem ltK_trans {a b c : K3} (h : ltK a b) (h' : ltK b c) : ltK a c := by unfold ltK at *; omega
theorem k_inj {x y : Txn} (h : x.k = y.k) : x = y := by
  have := congrArg toTx h
  rwa [toTx_k, toTx_k] at this
theorem PSpec.uniq {l l' : List Rec} {g : K3 → Option Work} (h : PSpec l g) (h' : PSpec l' g) : l = l' :=
  rise_eq (lt := fun a b : Rec => ltK a.Txn.k b.Txn.k) (fun _ => ltK_irr) (fun _ _ => ltK_asy) h.rise h'.rise fun a => by rw [h.mem, h'.mem]
theorem PSpec.congr {l : List Rec} {f g : K3 → Option Work} (h : PSpec l f) (e : ∀ k, f k = g k) : PSpec l g := by
  obtain rfl : f = g := funext e
  exact h
theorem sort3_rise {xs : List K3} (h : xs.Nodup) : (sort3 xs).Pairwise ltK := by
  have tr : ∀ a b c : K3, (!(ltOf ordI) b a) = true → (!(ltOf ordI) c b) = true → (!(ltOf ordI) c a) = true := fun a b c h1 h2 => by
    simp only [Bool.not_eq_true', ← Bool.not_eq_true, ltOf_iff] at *
    unfold ltK at *
    omega
  have to : ∀ a b : K3, ((!(ltOf ordI) b a) || (!(ltOf ordI) a b)) = true := fun a b => by
    simp only [Bool.or_eq_true, Bool.not_eq_true', ← Bool.not_eq_true, ltOf_iff]
    unfold ltK
    omega
  have h1 := List.pairwise_mergeSort tr to xs
  have h2 : (xs.mergeSort fun x y => !(ltOf ordI) y x).Nodup := (List.mergeSort_perm _ _).nodup_iff.2 h
  rw [List.nodup_iff_pairwise_ne] at h2
  unfold sort3
  refine (h1.and h2).imp fun {a b} ⟨e1, e2⟩ => ?_
  simp only [Bool.not_eq_true', ← Bool.not_eq_true, ltOf_iff] at e1
  refine Classical.byContradiction fun h3 => e2 (ltK_tot h3 e1)
def gW (s : TS) (k : K3) : Option Work := (mget k s.works).map (·.2)
theorem prepL_spec {s : TS} (hn : (s.works.map (·.1)).Nodup) : PSpec (prepL s) (gW s) := by
  refine ⟨?_, fun q => ?_⟩
  · unfold prepL
    rw [List.pairwise_map]
    exact (sort3_rise hn).imp fun h => h
  · unfold prepL gW
    rw [List.mem_map]
    constructor
    · rintro ⟨k, hk, rfl⟩
      obtain ⟨v, hv⟩ := mget_key.1 (mem_sort3.1 hk)
      refine ⟨v.2, ?_, ?_⟩
      · show (mget (toTx k).k s.works).map _ = _
        rw [k_toTx, hv]; rfl
      · simp only [recOf, recW, hv, Option.getD_some]
    · rintro ⟨w, hg, hq⟩
      cases hm : mget q.Txn.k s.works with
      | none => rw [hm] at hg; cases hg
      | some v =>
        rw [hm] at hg
        cases hg
        refine ⟨q.Txn.k, mem_sort3.2 (mget_key.2 ⟨_, hm⟩), ?_⟩
        rw [hq]
        simp only [recOf, recW, hm, Option.getD_some, toTx_k]
def holdL (k : ByteArray) (r : Int) : Bool → List Hold → List Hold
  | put, [] => if put = true then [] else [⟨k, r⟩]
  | put, h :: t => (if put = false ∧ SLt k h.Key then [⟨k, r⟩] else []) ++ ((if h.Key = k then [] else [h]) ++ holdL k r (put || decide (SLt k h.Key)) t)
theorem holdL_mem {k : ByteArray} {r : Int} {h : Hold} : ∀ {l : List Hold} {put : Bool}, h ∈ holdL k r put l ↔ (h ∈ l ∧ h.Key ≠ k) ∨ (put = false ∧ h = ⟨k, r⟩)
  | [], put => by cases put <;> simp [holdL]
  | a :: t, put => by
    have ih := holdL_mem (k := k) (r := r) (h := h) (l := t) (put := put || decide (SLt k a.Key))
    have e1 : h ∈ (if a.Key = k then ([] : List Hold) else [a]) ↔ h = a ∧ a.Key ≠ k := by by_cases hk : a.Key = k <;> simp [hk]
    simp only [holdL, List.mem_append, ih, e1, List.mem_cons]
    cases put with
    | true =>
      simp only [Bool.true_or, Bool.true_eq_false, false_and, if_false, List.not_mem_nil, false_or, or_false]
      constructor
      · rintro (⟨rfl, h2⟩ | ⟨h1, h2⟩)
        · exact ⟨.inl rfl, h2⟩
        · exact ⟨.inr h1, h2⟩
      · rintro ⟨rfl | h1, h2⟩
        · exact .inl ⟨rfl, h2⟩
        · exact .inr ⟨h1, h2⟩
    | false =>
      by_cases hs : SLt k a.Key
      · simp only [hs, decide_true, Bool.false_or, true_and, and_true, if_true, List.mem_singleton, Bool.true_eq_false, false_and, or_false]
        constructor
        · rintro (h | ⟨rfl, h2⟩ | ⟨h1, h2⟩)
          · exact .inr h
          · exact .inl ⟨.inl rfl, h2⟩
          · exact .inl ⟨.inr h1, h2⟩
        · rintro (⟨rfl | h1, h2⟩ | h)
          · exact .inr (.inl ⟨rfl, h2⟩)
          · exact .inr (.inr ⟨h1, h2⟩)
          · exact .inl h
      · simp only [hs, decide_false, Bool.false_or, and_false, if_false, List.not_mem_nil, false_or, true_and]
        constructor
        · rintro (⟨rfl, h2⟩ | ⟨h1, h2⟩ | h)
          · exact .inl ⟨.inl rfl, h2⟩
          · exact .inl ⟨.inr h1, h2⟩
          · exact .inr h
        · rintro (⟨rfl | h1, h2⟩ | h)
          · exact .inl ⟨rfl, h2⟩
          · exact .inr (.inl ⟨h1, h2⟩)
          · exact .inr (.inr h)
theorem holdL_rise {k : ByteArray} {r : Int} : ∀ {l : List Hold} {put : Bool}, l.Pairwise (fun a b => SLt a.Key b.Key) → (holdL k r put l).Pairwise (fun a b => SLt a.Key b.Key)
  | [], put, _ => by cases put <;> simp [holdL]
  | a :: t, put, h => by
    rw [List.pairwise_cons] at h
    have ih := fun p => holdL_rise (k := k) (r := r) (l := t) (put := p) h.2
    have hm := fun p x => holdL_mem (k := k) (r := r) (h := x) (l := t) (put := p)
    have hin : ∀ p, (p = false → ¬ SLt k a.Key) → ((if a.Key = k then ([] : List Hold) else [a]) ++ holdL k r p t).Pairwise (fun a b => SLt a.Key b.Key) := fun p hp => by
      by_cases hk : a.Key = k
      · rw [if_pos hk]; exact ih p
      · rw [if_neg hk, List.singleton_append, List.pairwise_cons]
        refine ⟨fun x hx => ?_, ih p⟩
        rcases (hm p x).1 hx with ⟨h1, _⟩ | ⟨h1, rfl⟩
        · exact h.1 x h1
        · rcases slt_tri (s := a.Key) (t := k) with h2 | h2 | h2
          · exact h2
          · exact absurd h2 hk
          · exact absurd h2 (hp h1)
    simp only [holdL]
    by_cases hc : put = false ∧ SLt k a.Key
    · rw [if_pos hc, List.singleton_append, List.pairwise_cons]
      refine ⟨fun x hx => ?_, hin _ (by simp [hc.2])⟩
      rw [List.mem_append] at hx
      rcases hx with hx | hx
      · by_cases hk : a.Key = k
        · rw [if_pos hk] at hx; cases hx
        · rw [if_neg hk, List.mem_singleton] at hx; subst hx; exact hc.2
      · rcases (hm _ x).1 hx with ⟨h1, _⟩ | ⟨h1, rfl⟩
        · exact slt_trans hc.2 (h.1 x h1)
        · simp [hc.2] at h1
    · rw [if_neg hc, List.nil_append]
      refine hin _ fun hp hs => ?_
      simp only [Bool.or_eq_false_iff] at hp
      exact hc ⟨hp.1, hs⟩
theorem HSpec.hold {l : List Hold} {f : ByteArray → Option Int} (h : HSpec l f) (k : ByteArray) (r : Int) (put : Bool) : HSpec (holdL k r put l) (fun k' => if k' = k then (if put = true then none else some r) else f k') := by
  refine ⟨holdL_rise h.rise, fun x => ?_⟩
  rw [holdL_mem, h.mem]
  obtain ⟨xk, xr⟩ := x
  by_cases e : xk = k
  · subst e
    cases put <;> simp [eq_comm]
  · simp [e]
theorem mdel_nodup {κ ν : Type} [DecidableEq κ] {m : List (κ × ν)} {k : κ} (h : (m.map (·.1)).Nodup) : ((mdel k m).map (·.1)).Nodup := h.sublist ((mdel_sub k m).map _)
theorem PSpec.none {l : List Rec} {g : K3 → Option Work} (h : PSpec l g) {x : Txn} (hx : ∀ q ∈ l, q.Txn ≠ x) : g x.k = none := by
  cases hg : g x.k with
  | none => rfl
  | some w => exact absurd rfl (hx (recW x w) ((h.mem _).2 ⟨w, hg, rfl⟩))
theorem dupT_iff {l : List ByteArray} : dupT l ↔ ¬ l.Nodup := by
  have tr : ∀ a b c : List UInt8, leB a b = true → leB b c = true → leB a c = true := fun a b c h1 h2 => by
    simp only [leB, decide_eq_true_eq] at *
    exact List.le_trans h1 h2
  have to : ∀ a b : List UInt8, (leB a b || leB b a) = true := fun a b => by
    simp only [leB, Bool.or_eq_true, decide_eq_true_eq]
    exact List.le_total a b
  have hs := List.pairwise_mergeSort tr to (l.map fun s => s.data.toList)
  have hp := List.mergeSort_perm (l.map fun s => s.data.toList) leB
  have hm : (sortT l).map (fun s => s.data.toList) = (l.map fun s => s.data.toList).mergeSort leB := by
    unfold sortT
    rw [List.map_map]
    exact (List.map_congr_left fun s _ => (by simp [sb] : ((fun s : ByteArray => s.data.toList) ∘ sb) s = s)).trans (List.map_id' _)
  unfold dupT compT
  rw [List.length_map, hm]
  have hnd : l.Nodup ↔ ((l.map fun s => s.data.toList).mergeSort leB).Nodup := by
    rw [hp.nodup_iff, List.nodup_iff_pairwise_ne, List.nodup_iff_pairwise_ne, List.pairwise_map]
    constructor
    · exact fun h => h.imp fun h e => h (text_ext e)
    · exact fun h => h.imp fun h e => h (by rw [e])
  have hlen : l.length = ((l.map fun s => s.data.toList).mergeSort leB).length := by rw [hp.length_eq, List.length_map]
  rw [hnd, hlen]
  generalize (l.map fun s => s.data.toList).mergeSort leB = z at *
  unfold Lib.compact Lib.compactUpTo
  rw [List.length_map]
  have hle := List.length_filter_le (Lib.keeps z.toArray) (List.range z.length)
  rw [List.length_range] at hle
  have hiff : ((List.range z.length).filter (Lib.keeps z.toArray)).length = z.length ↔ ∀ j < z.length, Lib.keeps z.toArray j = true := by
    constructor
    · intro h j hj
      have h2 := List.length_filter_eq_length_iff.1 (h.trans List.length_range.symm)
      exact h2 j (List.mem_range.2 hj)
    · intro h
      exact (List.length_filter_eq_length_iff.2 fun j hj => h j (List.mem_range.1 hj)).trans List.length_range
  have hkey : (∀ j < z.length, Lib.keeps z.toArray j = true) ↔ z.Nodup := by
    have hget : ∀ j (hj : j < z.length), z.toArray[j]! = z[j] := fun j hj => by rw [getElem!_pos z.toArray j (by simpa using hj)]; simp
    constructor
    · intro h
      rw [List.nodup_iff_pairwise_ne, List.pairwise_iff_getElem]
      intro i j hi hj hij e
      have hk := h j hj
      unfold Lib.keeps at hk
      rcases of_decide_eq_true hk with h0 | h0
      · omega
      · rw [hget j hj, hget (j - 1) (by omega)] at h0
        rw [List.pairwise_iff_getElem] at hs
        have h1 := hs (j - 1) j (by omega) hj (by omega)
        simp only [leB, decide_eq_true_eq] at h1
        have h2 : z[i] ≤ z[j - 1]'(by omega) := by
          rcases Nat.eq_or_lt_of_le (show i ≤ j - 1 by omega) with e2 | e2
          · subst e2; exact List.le_refl _
          · have := hs i (j - 1) hi (by omega) e2
            simpa only [leB, decide_eq_true_eq] using this
        rw [e] at h2
        exact h0 (List.le_antisymm h2 h1)
    · intro h j hj
      unfold Lib.keeps
      refine decide_eq_true ?_
      by_cases h0 : j = 0
      · exact .inl h0
      · right
        rw [hget j hj, hget (j - 1) (by omega)]
        intro e
        rw [List.nodup_iff_pairwise_ne, List.pairwise_iff_getElem] at h
        exact h (j - 1) j (by omega) hj (by omega) e.symm
  rw [← hkey, ← hiff]
  omega
theorem ReadP.form {l : List UInt8} {r : Value} (h : ReadP l r) : ∃ a b t ok, r = .tuple #[.agg #[I a, I b, I t], .bool ok] ∧ ((ok = true ∧ isKey l (a, b, t)) ∨ (ok = false ∧ (∀ k, ¬ isKey l k) ∧ a = 0 ∧ b = 0 ∧ t = 0)) := by
  rcases h with ⟨⟨a, b, t⟩, hk, rfl⟩ | ⟨hno, rfl⟩
  · exact ⟨a, b, t, true, rfl, .inl ⟨rfl, hk⟩⟩
  · exact ⟨0, 0, 0, false, rfl, .inr ⟨rfl, hno, rfl, rfl, rfl⟩⟩
theorem sb_self (k : ByteArray) : sb k.data.toList = k := (sb_of k).symm
end Go.Proofs.YtlflbkpmfhhikaaGreatDoor
