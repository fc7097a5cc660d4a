/- LockUndone: what is given up is gone. -/
import Derived.Test.YtkhbfjkioehgfaaGreatDoorMT
set_option linter.unusedVariables false
set_option linter.unusedSimpArgs false
namespace Go.Proofs.YtkhbfjkioehgfaaGreatDoor
open Go Go.Sx Go.Proofs
theorem prepE_iff {s : TS} {x : Txn} {w : Work} : prepE s x w = 0 ↔ gW s x.k = none ∧ w.ks.Nodup ∧ (∀ k ∈ w.ks, mget k s.locked = none) ∧ ∀ k ∈ w.Take, mget k s.held = none := by
  constructor
  · intro h
    obtain ⟨h1, h2, h3⟩ := prepE_zero h
    obtain ⟨h4, h5⟩ := wayT_ks h3
    exact ⟨h1, h2, h4, h5⟩
  · rintro ⟨h1, h2, h3, h4⟩
    rw [prepE_none h1, if_neg fun h => dupT_iff.1 h h2, if_pos]
    rw [wayT_iff]
    intro j hj
    refine ⟨h3 _ (List.getElem_mem hj), ?_⟩
    by_cases hh : w.Take.length ≤ 0 + j
    · exact .inl hh
    · right
      have e : w.ks[j] = w.Take[j]'(by omega) := by simp only [Work.ks]; rw [List.getElem_append_left (by omega)]
      rw [e]
      exact h4 _ (List.getElem_mem _)
/-- two tables tell the same -/
structure Same (s s' : TS) : Prop where
  h : ∀ k, mget k s'.held = mget k s.held
  g : ∀ k, gW s' k = gW s k
theorem Same.rel {s s' : TS} {m : Table} (e : Same s s') (r : Rel s m) : Rel s' m := ⟨r.h.congr fun k => (e.h k).symm, r.p.congr fun k => (e.g k).symm⟩
theorem Same.lock {n n' : Nat} {s s' : TS} (e : Same s s') (I : Inv n s) (I' : Inv n' s') (k : ByteArray) : mget k s'.locked = mget k s.locked := by
  have h1 := fun x => I.lk k x
  have h2 := fun x => I'.lk k x
  cases hm : mget k s.locked with
  | some x =>
    obtain ⟨w, g1, g2⟩ := (h1 x).1 hm
    exact (h2 x).2 ⟨w, by rw [e.g]; exact g1, g2⟩
  | none =>
    cases hm' : mget k s'.locked with
    | none => rfl
    | some x =>
      obtain ⟨w, g1, g2⟩ := (h2 x).1 hm'
      have := (h1 x).2 ⟨w, by rw [← e.g]; exact g1, g2⟩
      rw [hm] at this; cases this
theorem twice_2 {s : TS} {x : Txn} {w w' : Work} {cs : List Value} : prepE (prepT s x w cs) x w' = 2 := by
  unfold prepE
  rw [if_pos]
  rw [gW_some, gW_prep, if_pos rfl]; simp
theorem apply_prep {n : Nat} {s : TS} {x : Txn} {w : Work} {cs : List Value} {yes : Bool} : applyE (prepT s x w cs) x = 0 ∧ applyT (prepT s x w cs) x yes = applyW (prepT s x w cs) x yes w := by
  have hg : gW (prepT s x w cs) x.k = some w := by rw [gW_prep, if_pos rfl]
  refine ⟨?_, ?_⟩
  · unfold applyE
    rw [if_pos]
    rw [gW_some, hg]; simp
  · rw [applyT_eq, hg]
theorem apply_gone {n : Nat} {s : TS} {x : Txn} {w : Work} {cs : List Value} {yes : Bool} (I : Inv n (prepT s x w cs)) : gW (applyW (prepT s x w cs) x yes w) x.k = none := by
  rw [gW_apply I.wd, if_pos rfl]
theorem apply_none {s : TS} {x : Txn} {yes : Bool} (h : gW s x.k = none) : applyE s x = 4 ∧ applyT s x yes = s := by
  refine ⟨?_, ?_⟩
  · unfold applyE
    rw [if_neg]
    rw [gW_some, h]; simp
  · rw [applyT_eq, h]
theorem gW_back {n : Nat} {s : TS} {x : Txn} {w : Work} {cs : List Value} {yes : Bool} (I : Inv n (prepT s x w cs)) (hx : gW s x.k = none) (k : K3) : gW (applyW (prepT s x w cs) x yes w) k = gW s k := by
  rw [gW_apply I.wd]
  by_cases e : k = x.k
  · subst e; rw [if_pos rfl, hx]
  · rw [if_neg e, gW_prep, if_neg e]
theorem same_no {n : Nat} {s : TS} {x : Txn} {w : Work} {cs : List Value} (I : Inv n (prepT s x w cs)) (hx : gW s x.k = none) : Same s (applyW (prepT s x w cs) x false w) :=
  ⟨fun k => rfl, gW_back I hx⟩
theorem clip_clip {w : Work} : clipW (clipW w) = clipW w := by simp [clipW, List.take_take]
/-- the works of the second half -/
def takeW (w : Work) : Work := ⟨w.Robot, w.Take, []⟩
def backW (w : Work) : Work := ⟨w.Robot, [], w.Take⟩
theorem OkW.takeW {w : Work} (h : OkW w) : OkW (takeW w) := ⟨h.take, Nat.zero_le _, h.rob, fun k hk => h.size k (by simp only [Go.Proofs.YtkhbfjkioehgfaaGreatDoor.takeW, Work.ks, List.append_nil] at hk; simp [Work.ks, hk])⟩
theorem OkW.backW {w : Work} (h : OkW w) : OkW (backW w) := ⟨Nat.zero_le _, h.take, h.rob, fun k hk => h.size k (by simp only [Go.Proofs.YtkhbfjkioehgfaaGreatDoor.backW, Work.ks, List.nil_append] at hk; simp [Work.ks, hk])⟩
theorem clip_take {w : Work} : clipW (takeW (clipW w)) = takeW (clipW w) := by simp [clipW, takeW, List.take_take]
theorem clip_back {w : Work} : clipW (backW (clipW w)) = backW (clipW w) := by simp [clipW, backW, List.take_take]
/-- taken and given back -/
theorem round_trip {n : Nat} {s : TS} {x : Txn} {w : Work} (I : Inv n s) (hw : OkW w) (hx : okX x.k) (h : prepE s x w = 0) {n2 : Nat} {s2 : TS} (I2 : Inv n2 s2) (e2 : Same s s2) (cs3 cs5 : List Value) :
    prepE s2 x (takeW w) = 0 ∧ prepE (applyW (prepT s2 x (takeW w) cs3) x true (takeW w)) x (backW w) = 0 ∧
    Same s (applyW (prepT (applyW (prepT s2 x (takeW w) cs3) x true (takeW w)) x (backW w) cs5) x true (backW w)) ∧ Inv (n2 + 4) (applyW (prepT (applyW (prepT s2 x (takeW w) cs3) x true (takeW w)) x (backW w) cs5) x true (backW w)) ∧ Inv (n2 + 2) (applyW (prepT s2 x (takeW w) cs3) x true (takeW w)) := by
  obtain ⟨p1, p2, p3, p4⟩ := prepE_iff.1 h
  have hnd : w.Take.Nodup := by
    have := p2
    simp only [Work.ks, List.nodup_append] at this
    exact this.1
  have hin : ∀ k ∈ w.Take, k ∈ w.ks := fun k hk => by simp [Work.ks, hk]
  have g2 : gW s2 x.k = none := by rw [e2.g]; exact p1
  have E2 : prepE s2 x (takeW w) = 0 := prepE_iff.2 ⟨g2, by simpa [takeW, Work.ks] using hnd, fun k hk => by
    simp only [takeW, Work.ks, List.append_nil] at hk
    rw [e2.lock I I2]; exact p3 k (hin k hk), fun k hk => by rw [e2.h]; exact p4 k hk⟩
  have I3 := I2.prep (cs := cs3) hw.takeW hx E2
  have hg3 : gW (prepT s2 x (takeW w) cs3) x.k = some (takeW w) := by rw [gW_prep, if_pos rfl]
  have I4 := I3.apply (yes := true) hg3
  have g4 := gW_back (yes := true) I3 g2
  have h4 : ∀ k, mget k (applyW (prepT s2 x (takeW w) cs3) x true (takeW w)).held = if k ∈ w.Take then some w.Robot else mget k s2.held := fun k => by
    show mget k (takeAll w.Robot w.Take (dropAll w.Robot [] s2.held)) = _
    exact (takeAll_get (r := w.Robot) (k := k) (ks := w.Take) (l := s2.held) I2.hd).1
  have l4 : ∀ k ∈ w.Take, mget k (applyW (prepT s2 x (takeW w) cs3) x true (takeW w)).locked = none := fun k hk => by
    show mget k (unlockAll (takeW w).ks (lockAll x (takeW w).ks s2.locked)) = none
    rw [(unlockAll_get (k := k) (ks := (takeW w).ks) (lockAll_get (x := x) (k := k) (ks := (takeW w).ks) I2.ld).2).1, if_pos (by simpa [takeW, Work.ks] using hk)]
  generalize hs4 : applyW (prepT s2 x (takeW w) cs3) x true (takeW w) = s4 at I4 g4 h4 l4 ⊢
  have g4x : gW s4 x.k = none := by rw [g4]; exact g2
  have E4 : prepE s4 x (backW w) = 0 := prepE_iff.2 ⟨g4x, by simpa [backW, Work.ks] using hnd, fun k hk => by
    simp only [backW, Work.ks, List.nil_append] at hk
    exact l4 k hk, fun k hk => by simp [backW] at hk⟩
  have I5 := I4.prep (cs := cs5) hw.backW hx E4
  have hg5 : gW (prepT s4 x (backW w) cs5) x.k = some (backW w) := by rw [gW_prep, if_pos rfl]
  have I6 := I5.apply (yes := true) hg5
  have g6 := gW_back (yes := true) I5 g4x
  have h6 : ∀ k, mget k (applyW (prepT s4 x (backW w) cs5) x true (backW w)).held = if k ∈ w.Take ∧ mget k s4.held = some w.Robot then none else mget k s4.held := fun k => by
    show mget k (takeAll w.Robot [] (dropAll w.Robot w.Take s4.held)) = _
    exact (dropAll_get (r := w.Robot) (k := k) (ks := w.Take) (l := s4.held) I4.hd).1
  refine ⟨E2, E4, ⟨fun k => ?_, fun k => ?_⟩, I6, I4⟩
  · rw [h6, h4]
    by_cases hk : k ∈ w.Take
    · rw [if_pos hk, if_pos ⟨hk, rfl⟩, p4 k hk]
    · rw [if_neg hk, if_neg fun h => hk h.1, e2.h]
  · rw [g6, g4, e2.g]
set_option maxHeartbeats 32000000 in
set_option maxRecDepth 20000 in
theorem lockUndone_spec {W0 : World} {H : Heap} {v : Value} {cx cw : List Value} {script : List Op} {x : Txn} {w : Work} (hP : PkH H) (h0 : SlB rOp 10 120 H v script) (hx : rTxn H cx x) (hw : rWork H cw w) :
    Ct Tryz.prog 6 #[v, .agg cx.toArray, .agg cw.toArray] W0 H [] (fun r H' B => r = .bool true ∧ B = []) := by
  refine Ct.go (vs := [v, .agg cx.toArray, .agg cw.toArray]) fun R => ?_
  obtain ⟨rfl, hx⟩ := hx
  obtain ⟨x1, x2, x3⟩ := x
  dsimp only at hx
  have hw0 := hw
  obtain ⟨s1, s2, rfl, hrob, hs1, hs2⟩ := hw
  obtain ⟨b1, c1, rfl, hc1, hd1⟩ := hs1.1.shape
  obtain ⟨b2, c2, rfl, hc2, hd2⟩ := hs2.1.shape
  have hcw := clip_ok hw0
  have hc80 := hcw.ks_len
  refine walk ?_
  refine ops_box rfl rfl fun p4 _ => ?_
  refine ops_box rfl rfl fun p5 _ => ?_
  refine walk ?_
  refine ops_call rfl rfl (built_spec hP h0.1) fun r1 H1 B hl1 ⟨p, s, m, c, er, hc, hI, hR, eB⟩ => ?_
  subst er eB
  obtain ⟨q1, q2, rfl, hq1, hq2⟩ := hc
  obtain ⟨qb1, qc1, rfl, _, _⟩ := hq1.1.shape
  obtain ⟨qb2, qc2, rfl, _, _⟩ := hq2.1.shape
  refine walk ?_
  refine ops_alloc rfl fun p8 _ => ?_
  refine walk ?_
  refine ops_call (vs := []) rfl rfl awake14_spec fun r2 H2 B hl2 ⟨er, eB⟩ => ?_
  subst er eB
  refine walk ?_
  refine ops_call rfl rfl (lawOwn_spec (RdOk.mono (R := rWork) (hl1.trans hl2) hw0)) fun r3 H3 B hl3 ⟨cs, er, hcs, eB⟩ => ?_
  subst er eB
  obtain ⟨w1, w2, rfl, k0, k1, k2⟩ := hcs
  obtain ⟨wb1, wc1, rfl, _, _⟩ := k1.1.shape
  obtain ⟨wb2, wc2, rfl, _, _⟩ := k2.1.shape
  refine ops_L (L' := tabO H3 p s :: row p4 27 [I x1, I x2, I x3] :: row p5 30 [I w.Robot, .slice b1 w.Take.length c1, .slice b2 w.Drop.length c2] :: row p8 55 [.slice qb1 m.Held.length qc1, .slice qb2 m.Prep.length qc2] :: R) ?_ ?_
  · refine Sub.trans ?_ (tab_up (hl2.trans hl3))
    (repeat (first | exact Sub.refl _ | exact Sub.nil _ | (apply sub_pick; (repeat (first | exact Has.here | apply Has.there)); skip) | apply Sub.drop))
  refine walk ?_
  have hW3 : rWork H3 [I w.Robot, .slice wb1 (clipW w).Take.length wc1, .slice wb2 (clipW w).Drop.length wc2] (clipW w) := ⟨_, _, rfl, k0, k1, k2⟩
  have hc16 : (clipW w).ks.length * 16 ≤ cap47 := by simp only [cap47]; omega
  have hT3 : rTable H3 [.slice qb1 m.Held.length qc1, .slice qb2 m.Prep.length qc2] m := RdOk.mono (R := rTable) (hl2.trans hl3) ⟨_, _, rfl, hq1, hq2⟩
  have hown := fun {W0 : World} {HH : Heap} (hl : H3.le HH) => lawOwn_spec (W0 := W0) (RdOk.mono (R := rWork) hl hW3)
  rw [clip_clip] at hown
  refine ex_any 4 [row p4 27 [I x1, I x2, I x3], row p5 30 [I w.Robot, .slice wb1 (clipW w).Take.length wc1, .slice wb2 (clipW w).Drop.length wc2]] ?_
  (first | refine gny_p 0 rfl rfl rfl ?_ | refine gny_ld 0 rfl rfl rfl rfl ?_ | refine gny_ldH 0 rfl rfl rfl ‹HRow _ _ 0 _› rfl ?_ | refine gny_T 0 rfl rfl rfl ?_ | refine gny_F 0 rfl rfl rfl ?_ | refine gny_B 0 rfl rfl rfl ?_ | refine gny_skip 0 rfl rfl ?_ | refine gny_sp 0 rfl rfl rfl ?_ | refine gny_sB 0 rfl rfl rfl ?_ | refine gny_sld 0 rfl rfl rfl rfl ?_ | refine gny_sldH 0 rfl rfl rfl ‹HRow _ _ 0 _› rfl ?_ | refine gny_ldN 0 rfl rfl rfl rfl ?_ | refine gny_bld 0 rfl rfl rfl ?_); (first | refine gny_p 1 rfl rfl rfl ?_ | refine gny_ld 1 rfl rfl rfl rfl ?_ | refine gny_ldH 1 rfl rfl rfl ‹HRow _ _ 0 _› rfl ?_ | refine gny_T 1 rfl rfl rfl ?_ | refine gny_F 1 rfl rfl rfl ?_ | refine gny_B 1 rfl rfl rfl ?_ | refine gny_skip 1 rfl rfl ?_ | refine gny_sp 1 rfl rfl rfl ?_ | refine gny_sB 1 rfl rfl rfl ?_ | refine gny_sld 1 rfl rfl rfl rfl ?_ | refine gny_sldH 1 rfl rfl rfl ‹HRow _ _ 0 _› rfl ?_ | refine gny_ldN 1 rfl rfl rfl rfl ?_ | refine gny_bld 1 rfl rfl rfl ?_); (first | refine gny_p 2 rfl rfl rfl ?_ | refine gny_ld 2 rfl rfl rfl rfl ?_ | refine gny_ldH 2 rfl rfl rfl ‹HRow _ _ 0 _› rfl ?_ | refine gny_T 2 rfl rfl rfl ?_ | refine gny_F 2 rfl rfl rfl ?_ | refine gny_B 2 rfl rfl rfl ?_ | refine gny_skip 2 rfl rfl ?_ | refine gny_sp 2 rfl rfl rfl ?_ | refine gny_sB 2 rfl rfl rfl ?_ | refine gny_sld 2 rfl rfl rfl rfl ?_ | refine gny_sldH 2 rfl rfl rfl ‹HRow _ _ 0 _› rfl ?_ | refine gny_ldN 2 rfl rfl rfl rfl ?_ | refine gny_bld 2 rfl rfl rfl ?_)
  refine gny_call 3 rfl rfl rfl (hown (.refl _)) fun r4 H4 B hl4 ⟨cs4, er, hcs4, eB⟩ => ?_
  subst er eB
  refine ⟨(by (repeat (first | exact Sub.refl _ | exact Sub.nil _ | (apply sub_pick; (repeat (first | exact Has.here | apply Has.there)); skip) | apply Sub.drop))), ?_⟩
  refine any_rest rfl ?_
  refine ops_L (L' := tabO H4 p s :: row p4 27 [I x1, I x2, I x3] :: row p5 30 [I w.Robot, .slice wb1 (clipW w).Take.length wc1, .slice wb2 (clipW w).Drop.length wc2] :: row p8 55 [.slice qb1 m.Held.length qc1, .slice qb2 m.Prep.length qc2] :: R) ?_ ?_
  · refine Sub.trans ?_ (tab_up hl4)
    (repeat (first | exact Sub.refl _ | exact Sub.nil _ | (apply sub_pick; (repeat (first | exact Has.here | apply Has.there)); skip) | apply Sub.drop))
  refine ops_call rfl rfl (prepare_spec (W0 := W0) (H := H4) (p := p) (s := s) (x := ⟨x1, x2, x3⟩) (w := clipW w) (cw := cs4) hx hcs4 hc16) fun r5 H5 B hl5 ⟨er, cs5, hcs5, eB⟩ => ?_
  subst er eB
  by_cases hz : prepE s ⟨x1, x2, x3⟩ (clipW w) = 0
  rotate_left
  · rw [if_neg hz]
    generalize prepE s ⟨x1, x2, x3⟩ (clipW w) = e at hz ⊢
    refine walk ?_
    refine ops_call rfl rfl (tells_spec (W0 := W0) (H := H5) (p := p) (s := s) (m := m) (n := 60) hI (by omega) hR (RdOk.mono (R := rTable) (hl4.trans hl5) hT3)) fun r6 H6 B hl6 ⟨er, eB⟩ => ?_
    subst er eB
    refine walk ?_
    refine fin0 ?_
    exact ⟨rfl, rfl⟩
  have hx' : okX (Txn.k ⟨x1, x2, x3⟩) := hx
  have hx0 := (prepE_iff.1 hz).1
  have I1 := hI.prep (cs := cs5) hcw hx' hz
  have I2 := I1.apply (yes := false) (show gW _ (Txn.k ⟨x1, x2, x3⟩) = some (clipW w) by rw [gW_prep, if_pos rfl])
  have S2 := same_no I1 hx0
  have hap := apply_prep (n := 60) (s := s) (x := ⟨x1, x2, x3⟩) (w := clipW w) (cs := cs5) (yes := false)
  have hgo := apply_none (yes := false) (apply_gone (yes := false) I1)
  have htw := twice_2 (s := s) (x := ⟨x1, x2, x3⟩) (w := clipW w) (w' := clipW w) (cs := cs5)
  have hks1 := I1.ks_ok (Txn.k ⟨x1, x2, x3⟩)
  rw [hz, if_pos rfl]
  generalize hs1e : prepT s ⟨x1, x2, x3⟩ (clipW w) cs5 = t1 at hap hgo htw hks1 I2 S2 ⊢
  refine walk ?_
  refine ex_any 24 [row p4 27 [I x1, I x2, I x3], row p5 30 [I w.Robot, .slice wb1 (clipW w).Take.length wc1, .slice wb2 (clipW w).Drop.length wc2], row p8 55 [.slice qb1 m.Held.length qc1, .slice qb2 m.Prep.length qc2]] ?_
  (first | refine gny_p 0 rfl rfl rfl ?_ | refine gny_ld 0 rfl rfl rfl rfl ?_ | refine gny_ldH 0 rfl rfl rfl ‹HRow _ _ 0 _› rfl ?_ | refine gny_T 0 rfl rfl rfl ?_ | refine gny_F 0 rfl rfl rfl ?_ | refine gny_B 0 rfl rfl rfl ?_ | refine gny_skip 0 rfl rfl ?_ | refine gny_sp 0 rfl rfl rfl ?_ | refine gny_sB 0 rfl rfl rfl ?_ | refine gny_sld 0 rfl rfl rfl rfl ?_ | refine gny_sldH 0 rfl rfl rfl ‹HRow _ _ 0 _› rfl ?_ | refine gny_ldN 0 rfl rfl rfl rfl ?_ | refine gny_bld 0 rfl rfl rfl ?_); (first | refine gny_p 1 rfl rfl rfl ?_ | refine gny_ld 1 rfl rfl rfl rfl ?_ | refine gny_ldH 1 rfl rfl rfl ‹HRow _ _ 0 _› rfl ?_ | refine gny_T 1 rfl rfl rfl ?_ | refine gny_F 1 rfl rfl rfl ?_ | refine gny_B 1 rfl rfl rfl ?_ | refine gny_skip 1 rfl rfl ?_ | refine gny_sp 1 rfl rfl rfl ?_ | refine gny_sB 1 rfl rfl rfl ?_ | refine gny_sld 1 rfl rfl rfl rfl ?_ | refine gny_sldH 1 rfl rfl rfl ‹HRow _ _ 0 _› rfl ?_ | refine gny_ldN 1 rfl rfl rfl rfl ?_ | refine gny_bld 1 rfl rfl rfl ?_); (first | refine gny_p 2 rfl rfl rfl ?_ | refine gny_ld 2 rfl rfl rfl rfl ?_ | refine gny_ldH 2 rfl rfl rfl ‹HRow _ _ 0 _› rfl ?_ | refine gny_T 2 rfl rfl rfl ?_ | refine gny_F 2 rfl rfl rfl ?_ | refine gny_B 2 rfl rfl rfl ?_ | refine gny_skip 2 rfl rfl ?_ | refine gny_sp 2 rfl rfl rfl ?_ | refine gny_sB 2 rfl rfl rfl ?_ | refine gny_sld 2 rfl rfl rfl rfl ?_ | refine gny_sldH 2 rfl rfl rfl ‹HRow _ _ 0 _› rfl ?_ | refine gny_ldN 2 rfl rfl rfl rfl ?_ | refine gny_bld 2 rfl rfl rfl ?_)
  refine gny_call 3 rfl rfl rfl (hown (hl4.trans hl5)) fun r6 H6 B hl6 ⟨cs6, er, hcs6, eB⟩ => ?_
  subst er eB
  refine ⟨(by (repeat (first | exact Sub.refl _ | exact Sub.nil _ | (apply sub_pick; (repeat (first | exact Has.here | apply Has.there)); skip) | apply Sub.drop))), ?_⟩
  refine any_L (L' := tabO H6 p t1 :: row p4 27 [I x1, I x2, I x3] :: row p5 30 [I w.Robot, .slice wb1 (clipW w).Take.length wc1, .slice wb2 (clipW w).Drop.length wc2] :: row p8 55 [.slice qb1 m.Held.length qc1, .slice qb2 m.Prep.length qc2] :: R) ?_ ?_
  · refine Sub.trans ?_ (tab_up hl6)
    (repeat (first | exact Sub.refl _ | exact Sub.nil _ | (apply sub_pick; (repeat (first | exact Has.here | apply Has.there)); skip) | apply Sub.drop))
  refine gny_call 4 rfl rfl rfl (prepare_spec (W0 := W0) (H := H6) (p := p) (s := t1) (x := ⟨x1, x2, x3⟩) (w := clipW w) (cw := cs6) hx hcs6 hc16) fun r7 H7 B hl7 ⟨er, cs7, hcs7, eB⟩ => ?_
  subst er eB
  have h57 : H5.le H7 := hl6.trans hl7
  refine ⟨(by (repeat (first | exact Sub.refl _ | exact Sub.nil _ | (apply sub_pick; (repeat (first | exact Has.here | apply Has.there)); skip) | apply Sub.drop))), ?_⟩
  rw [htw, if_neg (by decide)]
  (first | refine gny_p 5 rfl rfl rfl ?_ | refine gny_ld 5 rfl rfl rfl rfl ?_ | refine gny_ldH 5 rfl rfl rfl ‹HRow _ _ 0 _› rfl ?_ | refine gny_T 5 rfl rfl rfl ?_ | refine gny_F 5 rfl rfl rfl ?_ | refine gny_B 5 rfl rfl rfl ?_ | refine gny_skip 5 rfl rfl ?_ | refine gny_sp 5 rfl rfl rfl ?_ | refine gny_sB 5 rfl rfl rfl ?_ | refine gny_sld 5 rfl rfl rfl rfl ?_ | refine gny_sldH 5 rfl rfl rfl ‹HRow _ _ 0 _› rfl ?_ | refine gny_ldN 5 rfl rfl rfl rfl ?_ | refine gny_bld 5 rfl rfl rfl ?_); (first | refine gny_p 6 rfl rfl rfl ?_ | refine gny_ld 6 rfl rfl rfl rfl ?_ | refine gny_ldH 6 rfl rfl rfl ‹HRow _ _ 0 _› rfl ?_ | refine gny_T 6 rfl rfl rfl ?_ | refine gny_F 6 rfl rfl rfl ?_ | refine gny_B 6 rfl rfl rfl ?_ | refine gny_skip 6 rfl rfl ?_ | refine gny_sp 6 rfl rfl rfl ?_ | refine gny_sB 6 rfl rfl rfl ?_ | refine gny_sld 6 rfl rfl rfl rfl ?_ | refine gny_sldH 6 rfl rfl rfl ‹HRow _ _ 0 _› rfl ?_ | refine gny_ldN 6 rfl rfl rfl rfl ?_ | refine gny_bld 6 rfl rfl rfl ?_); (first | refine gny_p 7 rfl rfl rfl ?_ | refine gny_ld 7 rfl rfl rfl rfl ?_ | refine gny_ldH 7 rfl rfl rfl ‹HRow _ _ 0 _› rfl ?_ | refine gny_T 7 rfl rfl rfl ?_ | refine gny_F 7 rfl rfl rfl ?_ | refine gny_B 7 rfl rfl rfl ?_ | refine gny_skip 7 rfl rfl ?_ | refine gny_sp 7 rfl rfl rfl ?_ | refine gny_sB 7 rfl rfl rfl ?_ | refine gny_sld 7 rfl rfl rfl rfl ?_ | refine gny_sldH 7 rfl rfl rfl ‹HRow _ _ 0 _› rfl ?_ | refine gny_ldN 7 rfl rfl rfl rfl ?_ | refine gny_bld 7 rfl rfl rfl ?_); (first | refine gny_p 8 rfl rfl rfl ?_ | refine gny_ld 8 rfl rfl rfl rfl ?_ | refine gny_ldH 8 rfl rfl rfl ‹HRow _ _ 0 _› rfl ?_ | refine gny_T 8 rfl rfl rfl ?_ | refine gny_F 8 rfl rfl rfl ?_ | refine gny_B 8 rfl rfl rfl ?_ | refine gny_skip 8 rfl rfl ?_ | refine gny_sp 8 rfl rfl rfl ?_ | refine gny_sB 8 rfl rfl rfl ?_ | refine gny_sld 8 rfl rfl rfl rfl ?_ | refine gny_sldH 8 rfl rfl rfl ‹HRow _ _ 0 _› rfl ?_ | refine gny_ldN 8 rfl rfl rfl rfl ?_ | refine gny_bld 8 rfl rfl rfl ?_)
  refine gny_call 9 rfl rfl rfl (apply_spec (W0 := W0) (H := H7) (p := p) (s := t1) (x := ⟨x1, x2, x3⟩) (yes := false) hks1) fun r8 H8 B hl8 ⟨er, eB⟩ => ?_
  subst er eB
  have h58 : H5.le H8 := h57.trans hl8
  refine ⟨(by (repeat (first | exact Sub.refl _ | exact Sub.nil _ | (apply sub_pick; (repeat (first | exact Has.here | apply Has.there)); skip) | apply Sub.drop))), ?_⟩
  rw [hap.1, hap.2]
  generalize hs2e : applyW t1 ⟨x1, x2, x3⟩ false (clipW w) = t2 at hgo I2 S2 ⊢
  (first | refine gny_p 10 rfl rfl rfl ?_ | refine gny_ld 10 rfl rfl rfl rfl ?_ | refine gny_ldH 10 rfl rfl rfl ‹HRow _ _ 0 _› rfl ?_ | refine gny_T 10 rfl rfl rfl ?_ | refine gny_F 10 rfl rfl rfl ?_ | refine gny_B 10 rfl rfl rfl ?_ | refine gny_skip 10 rfl rfl ?_ | refine gny_sp 10 rfl rfl rfl ?_ | refine gny_sB 10 rfl rfl rfl ?_ | refine gny_sld 10 rfl rfl rfl rfl ?_ | refine gny_sldH 10 rfl rfl rfl ‹HRow _ _ 0 _› rfl ?_ | refine gny_ldN 10 rfl rfl rfl rfl ?_ | refine gny_bld 10 rfl rfl rfl ?_); (first | refine gny_p 11 rfl rfl rfl ?_ | refine gny_ld 11 rfl rfl rfl rfl ?_ | refine gny_ldH 11 rfl rfl rfl ‹HRow _ _ 0 _› rfl ?_ | refine gny_T 11 rfl rfl rfl ?_ | refine gny_F 11 rfl rfl rfl ?_ | refine gny_B 11 rfl rfl rfl ?_ | refine gny_skip 11 rfl rfl ?_ | refine gny_sp 11 rfl rfl rfl ?_ | refine gny_sB 11 rfl rfl rfl ?_ | refine gny_sld 11 rfl rfl rfl rfl ?_ | refine gny_sldH 11 rfl rfl rfl ‹HRow _ _ 0 _› rfl ?_ | refine gny_ldN 11 rfl rfl rfl rfl ?_ | refine gny_bld 11 rfl rfl rfl ?_); (first | refine gny_p 12 rfl rfl rfl ?_ | refine gny_ld 12 rfl rfl rfl rfl ?_ | refine gny_ldH 12 rfl rfl rfl ‹HRow _ _ 0 _› rfl ?_ | refine gny_T 12 rfl rfl rfl ?_ | refine gny_F 12 rfl rfl rfl ?_ | refine gny_B 12 rfl rfl rfl ?_ | refine gny_skip 12 rfl rfl ?_ | refine gny_sp 12 rfl rfl rfl ?_ | refine gny_sB 12 rfl rfl rfl ?_ | refine gny_sld 12 rfl rfl rfl rfl ?_ | refine gny_sldH 12 rfl rfl rfl ‹HRow _ _ 0 _› rfl ?_ | refine gny_ldN 12 rfl rfl rfl rfl ?_ | refine gny_bld 12 rfl rfl rfl ?_); (first | refine gny_p 13 rfl rfl rfl ?_ | refine gny_ld 13 rfl rfl rfl rfl ?_ | refine gny_ldH 13 rfl rfl rfl ‹HRow _ _ 0 _› rfl ?_ | refine gny_T 13 rfl rfl rfl ?_ | refine gny_F 13 rfl rfl rfl ?_ | refine gny_B 13 rfl rfl rfl ?_ | refine gny_skip 13 rfl rfl ?_ | refine gny_sp 13 rfl rfl rfl ?_ | refine gny_sB 13 rfl rfl rfl ?_ | refine gny_sld 13 rfl rfl rfl rfl ?_ | refine gny_sldH 13 rfl rfl rfl ‹HRow _ _ 0 _› rfl ?_ | refine gny_ldN 13 rfl rfl rfl rfl ?_ | refine gny_bld 13 rfl rfl rfl ?_); (first | refine gny_p 14 rfl rfl rfl ?_ | refine gny_ld 14 rfl rfl rfl rfl ?_ | refine gny_ldH 14 rfl rfl rfl ‹HRow _ _ 0 _› rfl ?_ | refine gny_T 14 rfl rfl rfl ?_ | refine gny_F 14 rfl rfl rfl ?_ | refine gny_B 14 rfl rfl rfl ?_ | refine gny_skip 14 rfl rfl ?_ | refine gny_sp 14 rfl rfl rfl ?_ | refine gny_sB 14 rfl rfl rfl ?_ | refine gny_sld 14 rfl rfl rfl rfl ?_ | refine gny_sldH 14 rfl rfl rfl ‹HRow _ _ 0 _› rfl ?_ | refine gny_ldN 14 rfl rfl rfl rfl ?_ | refine gny_bld 14 rfl rfl rfl ?_)
  refine gny_call 15 rfl rfl rfl (apply_spec (W0 := W0) (H := H8) (p := p) (s := t2) (x := ⟨x1, x2, x3⟩) (yes := false) (I2.ks_ok _)) fun r9 H9 B hl9 ⟨er, eB⟩ => ?_
  subst er eB
  have h59 : H5.le H9 := h58.trans hl9
  refine ⟨(by (repeat (first | exact Sub.refl _ | exact Sub.nil _ | (apply sub_pick; (repeat (first | exact Has.here | apply Has.there)); skip) | apply Sub.drop))), ?_⟩
  rw [hgo.1, hgo.2]
  (first | refine gny_p 16 rfl rfl rfl ?_ | refine gny_ld 16 rfl rfl rfl rfl ?_ | refine gny_ldH 16 rfl rfl rfl ‹HRow _ _ 0 _› rfl ?_ | refine gny_T 16 rfl rfl rfl ?_ | refine gny_F 16 rfl rfl rfl ?_ | refine gny_B 16 rfl rfl rfl ?_ | refine gny_skip 16 rfl rfl ?_ | refine gny_sp 16 rfl rfl rfl ?_ | refine gny_sB 16 rfl rfl rfl ?_ | refine gny_sld 16 rfl rfl rfl rfl ?_ | refine gny_sldH 16 rfl rfl rfl ‹HRow _ _ 0 _› rfl ?_ | refine gny_ldN 16 rfl rfl rfl rfl ?_ | refine gny_bld 16 rfl rfl rfl ?_); (first | refine gny_p 17 rfl rfl rfl ?_ | refine gny_ld 17 rfl rfl rfl rfl ?_ | refine gny_ldH 17 rfl rfl rfl ‹HRow _ _ 0 _› rfl ?_ | refine gny_T 17 rfl rfl rfl ?_ | refine gny_F 17 rfl rfl rfl ?_ | refine gny_B 17 rfl rfl rfl ?_ | refine gny_skip 17 rfl rfl ?_ | refine gny_sp 17 rfl rfl rfl ?_ | refine gny_sB 17 rfl rfl rfl ?_ | refine gny_sld 17 rfl rfl rfl rfl ?_ | refine gny_sldH 17 rfl rfl rfl ‹HRow _ _ 0 _› rfl ?_ | refine gny_ldN 17 rfl rfl rfl rfl ?_ | refine gny_bld 17 rfl rfl rfl ?_); (first | refine gny_p 18 rfl rfl rfl ?_ | refine gny_ld 18 rfl rfl rfl rfl ?_ | refine gny_ldH 18 rfl rfl rfl ‹HRow _ _ 0 _› rfl ?_ | refine gny_T 18 rfl rfl rfl ?_ | refine gny_F 18 rfl rfl rfl ?_ | refine gny_B 18 rfl rfl rfl ?_ | refine gny_skip 18 rfl rfl ?_ | refine gny_sp 18 rfl rfl rfl ?_ | refine gny_sB 18 rfl rfl rfl ?_ | refine gny_sld 18 rfl rfl rfl rfl ?_ | refine gny_sldH 18 rfl rfl rfl ‹HRow _ _ 0 _› rfl ?_ | refine gny_ldN 18 rfl rfl rfl rfl ?_ | refine gny_bld 18 rfl rfl rfl ?_); (first | refine gny_p 19 rfl rfl rfl ?_ | refine gny_ld 19 rfl rfl rfl rfl ?_ | refine gny_ldH 19 rfl rfl rfl ‹HRow _ _ 0 _› rfl ?_ | refine gny_T 19 rfl rfl rfl ?_ | refine gny_F 19 rfl rfl rfl ?_ | refine gny_B 19 rfl rfl rfl ?_ | refine gny_skip 19 rfl rfl ?_ | refine gny_sp 19 rfl rfl rfl ?_ | refine gny_sB 19 rfl rfl rfl ?_ | refine gny_sld 19 rfl rfl rfl rfl ?_ | refine gny_sldH 19 rfl rfl rfl ‹HRow _ _ 0 _› rfl ?_ | refine gny_ldN 19 rfl rfl rfl rfl ?_ | refine gny_bld 19 rfl rfl rfl ?_); (first | refine gny_p 20 rfl rfl rfl ?_ | refine gny_ld 20 rfl rfl rfl rfl ?_ | refine gny_ldH 20 rfl rfl rfl ‹HRow _ _ 0 _› rfl ?_ | refine gny_T 20 rfl rfl rfl ?_ | refine gny_F 20 rfl rfl rfl ?_ | refine gny_B 20 rfl rfl rfl ?_ | refine gny_skip 20 rfl rfl ?_ | refine gny_sp 20 rfl rfl rfl ?_ | refine gny_sB 20 rfl rfl rfl ?_ | refine gny_sld 20 rfl rfl rfl rfl ?_ | refine gny_sldH 20 rfl rfl rfl ‹HRow _ _ 0 _› rfl ?_ | refine gny_ldN 20 rfl rfl rfl rfl ?_ | refine gny_bld 20 rfl rfl rfl ?_)
  have hlA : H3.le H9 := hl4.trans (hl5.trans (hl6.trans (hl7.trans (hl8.trans hl9))))
  refine gny_call 21 rfl rfl rfl (tells_spec (W0 := W0) (H := H9) (p := p) (s := t2) (m := m) (n := 62) I2 (by omega) (S2.rel hR) (RdOk.mono (R := rTable) hlA hT3)) fun r10 H10 B hl10 ⟨er, eB⟩ => ?_
  subst er eB
  have h510 : H5.le H10 := h59.trans hl10
  refine ⟨(by (repeat (first | exact Sub.refl _ | exact Sub.nil _ | (apply sub_pick; (repeat (first | exact Has.here | apply Has.there)); skip) | apply Sub.drop))), ?_⟩
  (first | refine gny_p 22 rfl rfl rfl ?_ | refine gny_ld 22 rfl rfl rfl rfl ?_ | refine gny_ldH 22 rfl rfl rfl ‹HRow _ _ 0 _› rfl ?_ | refine gny_T 22 rfl rfl rfl ?_ | refine gny_F 22 rfl rfl rfl ?_ | refine gny_B 22 rfl rfl rfl ?_ | refine gny_skip 22 rfl rfl ?_ | refine gny_sp 22 rfl rfl rfl ?_ | refine gny_sB 22 rfl rfl rfl ?_ | refine gny_sld 22 rfl rfl rfl rfl ?_ | refine gny_sldH 22 rfl rfl rfl ‹HRow _ _ 0 _› rfl ?_ | refine gny_ldN 22 rfl rfl rfl rfl ?_ | refine gny_bld 22 rfl rfl rfl ?_); (first | refine gny_p 23 rfl rfl rfl ?_ | refine gny_ld 23 rfl rfl rfl rfl ?_ | refine gny_ldH 23 rfl rfl rfl ‹HRow _ _ 0 _› rfl ?_ | refine gny_T 23 rfl rfl rfl ?_ | refine gny_F 23 rfl rfl rfl ?_ | refine gny_B 23 rfl rfl rfl ?_ | refine gny_skip 23 rfl rfl ?_ | refine gny_sp 23 rfl rfl rfl ?_ | refine gny_sB 23 rfl rfl rfl ?_ | refine gny_sld 23 rfl rfl rfl rfl ?_ | refine gny_sldH 23 rfl rfl rfl ‹HRow _ _ 0 _› rfl ?_ | refine gny_ldN 23 rfl rfl rfl rfl ?_ | refine gny_bld 23 rfl rfl rfl ?_)
  refine any_rest rfl ?_
  refine walk ?_
  refine ops_alloc rfl fun p11 _ => ?_
  refine walk ?_
  refine ops_alloc rfl fun p12 _ => ?_
  refine walk ?_
  have hlB : H3.le H10 := hlA.trans hl10
  have htk : rWork H10 [I w.Robot, .slice wb1 (clipW w).Take.length wc1, nilS] (takeW (clipW w)) := ⟨_, _, rfl, k0, k1.mono hlB, SlB.nil⟩
  have hbk : rWork H10 [I w.Robot, nilS, .slice wb1 (clipW w).Take.length wc1] (backW (clipW w)) := ⟨_, _, rfl, k0, SlB.nil, k1.mono hlB⟩
  have hownT := fun {W0 : World} {HH : Heap} (hl : H10.le HH) => lawOwn_spec (W0 := W0) (RdOk.mono (R := rWork) hl htk)
  have hownB := fun {W0 : World} {HH : Heap} (hl : H10.le HH) => lawOwn_spec (W0 := W0) (RdOk.mono (R := rWork) hl hbk)
  rw [clip_take] at hownT
  rw [clip_back] at hownB
  have htk16 : (takeW (clipW w)).ks.length * 16 ≤ cap47 := by have := hcw.takeW.ks_len; simp only [cap47]; omega
  have hbk16 : (backW (clipW w)).ks.length * 16 ≤ cap47 := by have := hcw.backW.ks_len; simp only [cap47]; omega
  have hrt := fun cs3 cs5 => round_trip hI hcw hx' hz I2 S2 cs3 cs5
  refine ex_any 31 [row p4 27 [I x1, I x2, I x3], row p8 55 [.slice qb1 m.Held.length qc1, .slice qb2 m.Prep.length qc2], row p11 30 [I w.Robot, .slice wb1 (clipW w).Take.length wc1, nilS], row p12 30 [I w.Robot, nilS, .slice wb1 (clipW w).Take.length wc1]] ?_
  (first | refine gny_p 0 rfl rfl rfl ?_ | refine gny_ld 0 rfl rfl rfl rfl ?_ | refine gny_ldH 0 rfl rfl rfl ‹HRow _ _ 0 _› rfl ?_ | refine gny_T 0 rfl rfl rfl ?_ | refine gny_F 0 rfl rfl rfl ?_ | refine gny_B 0 rfl rfl rfl ?_ | refine gny_skip 0 rfl rfl ?_ | refine gny_sp 0 rfl rfl rfl ?_ | refine gny_sB 0 rfl rfl rfl ?_ | refine gny_sld 0 rfl rfl rfl rfl ?_ | refine gny_sldH 0 rfl rfl rfl ‹HRow _ _ 0 _› rfl ?_ | refine gny_ldN 0 rfl rfl rfl rfl ?_ | refine gny_bld 0 rfl rfl rfl ?_); (first | refine gny_p 1 rfl rfl rfl ?_ | refine gny_ld 1 rfl rfl rfl rfl ?_ | refine gny_ldH 1 rfl rfl rfl ‹HRow _ _ 0 _› rfl ?_ | refine gny_T 1 rfl rfl rfl ?_ | refine gny_F 1 rfl rfl rfl ?_ | refine gny_B 1 rfl rfl rfl ?_ | refine gny_skip 1 rfl rfl ?_ | refine gny_sp 1 rfl rfl rfl ?_ | refine gny_sB 1 rfl rfl rfl ?_ | refine gny_sld 1 rfl rfl rfl rfl ?_ | refine gny_sldH 1 rfl rfl rfl ‹HRow _ _ 0 _› rfl ?_ | refine gny_ldN 1 rfl rfl rfl rfl ?_ | refine gny_bld 1 rfl rfl rfl ?_); (first | refine gny_p 2 rfl rfl rfl ?_ | refine gny_ld 2 rfl rfl rfl rfl ?_ | refine gny_ldH 2 rfl rfl rfl ‹HRow _ _ 0 _› rfl ?_ | refine gny_T 2 rfl rfl rfl ?_ | refine gny_F 2 rfl rfl rfl ?_ | refine gny_B 2 rfl rfl rfl ?_ | refine gny_skip 2 rfl rfl ?_ | refine gny_sp 2 rfl rfl rfl ?_ | refine gny_sB 2 rfl rfl rfl ?_ | refine gny_sld 2 rfl rfl rfl rfl ?_ | refine gny_sldH 2 rfl rfl rfl ‹HRow _ _ 0 _› rfl ?_ | refine gny_ldN 2 rfl rfl rfl rfl ?_ | refine gny_bld 2 rfl rfl rfl ?_)
  refine gny_call 3 rfl rfl rfl (hownT (.refl _)) fun r11 H11 B hl11 ⟨cs11, er, hcs11, eB⟩ => ?_
  subst er eB
  refine ⟨(by (repeat (first | exact Sub.refl _ | exact Sub.nil _ | (apply sub_pick; (repeat (first | exact Has.here | apply Has.there)); skip) | apply Sub.drop))), ?_⟩
  refine any_L (L' := tabO H11 p t2 :: row p4 27 [I x1, I x2, I x3] :: row p8 55 [.slice qb1 m.Held.length qc1, .slice qb2 m.Prep.length qc2] :: row p11 30 [I w.Robot, .slice wb1 (clipW w).Take.length wc1, nilS] :: row p12 30 [I w.Robot, nilS, .slice wb1 (clipW w).Take.length wc1] :: R) ?_ ?_
  · refine Sub.trans ?_ (tab_up hl11)
    (repeat (first | exact Sub.refl _ | exact Sub.nil _ | (apply sub_pick; (repeat (first | exact Has.here | apply Has.there)); skip) | apply Sub.drop))
  refine gny_call 4 rfl rfl rfl (prepare_spec (W0 := W0) (H := H11) (p := p) (s := t2) (x := ⟨x1, x2, x3⟩) (w := takeW (clipW w)) (cw := cs11) hx hcs11 htk16) fun r12 H12 B hl12 ⟨er, cs12, hcs12, eB⟩ => ?_
  subst er eB
  have h1012 : H10.le H12 := hl11.trans hl12
  refine ⟨(by (repeat (first | exact Sub.refl _ | exact Sub.nil _ | (apply sub_pick; (repeat (first | exact Has.here | apply Has.there)); skip) | apply Sub.drop))), ?_⟩
  obtain ⟨e1, _, _, _, J4⟩ := hrt cs12 cs12
  rw [e1, if_pos rfl]
  have J3 := I2.prep (cs := cs12) hcw.takeW hx' e1
  have hap3 := apply_prep (n := 60) (s := t2) (x := ⟨x1, x2, x3⟩) (w := takeW (clipW w)) (cs := cs12) (yes := true)
  (first | refine gny_p 5 rfl rfl rfl ?_ | refine gny_ld 5 rfl rfl rfl rfl ?_ | refine gny_ldH 5 rfl rfl rfl ‹HRow _ _ 0 _› rfl ?_ | refine gny_T 5 rfl rfl rfl ?_ | refine gny_F 5 rfl rfl rfl ?_ | refine gny_B 5 rfl rfl rfl ?_ | refine gny_skip 5 rfl rfl ?_ | refine gny_sp 5 rfl rfl rfl ?_ | refine gny_sB 5 rfl rfl rfl ?_ | refine gny_sld 5 rfl rfl rfl rfl ?_ | refine gny_sldH 5 rfl rfl rfl ‹HRow _ _ 0 _› rfl ?_ | refine gny_ldN 5 rfl rfl rfl rfl ?_ | refine gny_bld 5 rfl rfl rfl ?_); (first | refine gny_p 6 rfl rfl rfl ?_ | refine gny_ld 6 rfl rfl rfl rfl ?_ | refine gny_ldH 6 rfl rfl rfl ‹HRow _ _ 0 _› rfl ?_ | refine gny_T 6 rfl rfl rfl ?_ | refine gny_F 6 rfl rfl rfl ?_ | refine gny_B 6 rfl rfl rfl ?_ | refine gny_skip 6 rfl rfl ?_ | refine gny_sp 6 rfl rfl rfl ?_ | refine gny_sB 6 rfl rfl rfl ?_ | refine gny_sld 6 rfl rfl rfl rfl ?_ | refine gny_sldH 6 rfl rfl rfl ‹HRow _ _ 0 _› rfl ?_ | refine gny_ldN 6 rfl rfl rfl rfl ?_ | refine gny_bld 6 rfl rfl rfl ?_); (first | refine gny_p 7 rfl rfl rfl ?_ | refine gny_ld 7 rfl rfl rfl rfl ?_ | refine gny_ldH 7 rfl rfl rfl ‹HRow _ _ 0 _› rfl ?_ | refine gny_T 7 rfl rfl rfl ?_ | refine gny_F 7 rfl rfl rfl ?_ | refine gny_B 7 rfl rfl rfl ?_ | refine gny_skip 7 rfl rfl ?_ | refine gny_sp 7 rfl rfl rfl ?_ | refine gny_sB 7 rfl rfl rfl ?_ | refine gny_sld 7 rfl rfl rfl rfl ?_ | refine gny_sldH 7 rfl rfl rfl ‹HRow _ _ 0 _› rfl ?_ | refine gny_ldN 7 rfl rfl rfl rfl ?_ | refine gny_bld 7 rfl rfl rfl ?_); (first | refine gny_p 8 rfl rfl rfl ?_ | refine gny_ld 8 rfl rfl rfl rfl ?_ | refine gny_ldH 8 rfl rfl rfl ‹HRow _ _ 0 _› rfl ?_ | refine gny_T 8 rfl rfl rfl ?_ | refine gny_F 8 rfl rfl rfl ?_ | refine gny_B 8 rfl rfl rfl ?_ | refine gny_skip 8 rfl rfl ?_ | refine gny_sp 8 rfl rfl rfl ?_ | refine gny_sB 8 rfl rfl rfl ?_ | refine gny_sld 8 rfl rfl rfl rfl ?_ | refine gny_sldH 8 rfl rfl rfl ‹HRow _ _ 0 _› rfl ?_ | refine gny_ldN 8 rfl rfl rfl rfl ?_ | refine gny_bld 8 rfl rfl rfl ?_)
  refine gny_call 9 rfl rfl rfl (apply_spec (W0 := W0) (H := H12) (p := p) (s := prepT t2 ⟨x1, x2, x3⟩ (takeW (clipW w)) cs12) (x := ⟨x1, x2, x3⟩) (yes := true) (J3.ks_ok _)) fun r13 H13 B hl13 ⟨er, eB⟩ => ?_
  subst er eB
  have h1013 : H10.le H13 := h1012.trans hl13
  refine ⟨(by (repeat (first | exact Sub.refl _ | exact Sub.nil _ | (apply sub_pick; (repeat (first | exact Has.here | apply Has.there)); skip) | apply Sub.drop))), ?_⟩
  rw [hap3.1, hap3.2]
  (first | refine gny_p 10 rfl rfl rfl ?_ | refine gny_ld 10 rfl rfl rfl rfl ?_ | refine gny_ldH 10 rfl rfl rfl ‹HRow _ _ 0 _› rfl ?_ | refine gny_T 10 rfl rfl rfl ?_ | refine gny_F 10 rfl rfl rfl ?_ | refine gny_B 10 rfl rfl rfl ?_ | refine gny_skip 10 rfl rfl ?_ | refine gny_sp 10 rfl rfl rfl ?_ | refine gny_sB 10 rfl rfl rfl ?_ | refine gny_sld 10 rfl rfl rfl rfl ?_ | refine gny_sldH 10 rfl rfl rfl ‹HRow _ _ 0 _› rfl ?_ | refine gny_ldN 10 rfl rfl rfl rfl ?_ | refine gny_bld 10 rfl rfl rfl ?_); (first | refine gny_p 11 rfl rfl rfl ?_ | refine gny_ld 11 rfl rfl rfl rfl ?_ | refine gny_ldH 11 rfl rfl rfl ‹HRow _ _ 0 _› rfl ?_ | refine gny_T 11 rfl rfl rfl ?_ | refine gny_F 11 rfl rfl rfl ?_ | refine gny_B 11 rfl rfl rfl ?_ | refine gny_skip 11 rfl rfl ?_ | refine gny_sp 11 rfl rfl rfl ?_ | refine gny_sB 11 rfl rfl rfl ?_ | refine gny_sld 11 rfl rfl rfl rfl ?_ | refine gny_sldH 11 rfl rfl rfl ‹HRow _ _ 0 _› rfl ?_ | refine gny_ldN 11 rfl rfl rfl rfl ?_ | refine gny_bld 11 rfl rfl rfl ?_); (first | refine gny_p 12 rfl rfl rfl ?_ | refine gny_ld 12 rfl rfl rfl rfl ?_ | refine gny_ldH 12 rfl rfl rfl ‹HRow _ _ 0 _› rfl ?_ | refine gny_T 12 rfl rfl rfl ?_ | refine gny_F 12 rfl rfl rfl ?_ | refine gny_B 12 rfl rfl rfl ?_ | refine gny_skip 12 rfl rfl ?_ | refine gny_sp 12 rfl rfl rfl ?_ | refine gny_sB 12 rfl rfl rfl ?_ | refine gny_sld 12 rfl rfl rfl rfl ?_ | refine gny_sldH 12 rfl rfl rfl ‹HRow _ _ 0 _› rfl ?_ | refine gny_ldN 12 rfl rfl rfl rfl ?_ | refine gny_bld 12 rfl rfl rfl ?_); (first | refine gny_p 13 rfl rfl rfl ?_ | refine gny_ld 13 rfl rfl rfl rfl ?_ | refine gny_ldH 13 rfl rfl rfl ‹HRow _ _ 0 _› rfl ?_ | refine gny_T 13 rfl rfl rfl ?_ | refine gny_F 13 rfl rfl rfl ?_ | refine gny_B 13 rfl rfl rfl ?_ | refine gny_skip 13 rfl rfl ?_ | refine gny_sp 13 rfl rfl rfl ?_ | refine gny_sB 13 rfl rfl rfl ?_ | refine gny_sld 13 rfl rfl rfl rfl ?_ | refine gny_sldH 13 rfl rfl rfl ‹HRow _ _ 0 _› rfl ?_ | refine gny_ldN 13 rfl rfl rfl rfl ?_ | refine gny_bld 13 rfl rfl rfl ?_); (first | refine gny_p 14 rfl rfl rfl ?_ | refine gny_ld 14 rfl rfl rfl rfl ?_ | refine gny_ldH 14 rfl rfl rfl ‹HRow _ _ 0 _› rfl ?_ | refine gny_T 14 rfl rfl rfl ?_ | refine gny_F 14 rfl rfl rfl ?_ | refine gny_B 14 rfl rfl rfl ?_ | refine gny_skip 14 rfl rfl ?_ | refine gny_sp 14 rfl rfl rfl ?_ | refine gny_sB 14 rfl rfl rfl ?_ | refine gny_sld 14 rfl rfl rfl rfl ?_ | refine gny_sldH 14 rfl rfl rfl ‹HRow _ _ 0 _› rfl ?_ | refine gny_ldN 14 rfl rfl rfl rfl ?_ | refine gny_bld 14 rfl rfl rfl ?_); (first | refine gny_p 15 rfl rfl rfl ?_ | refine gny_ld 15 rfl rfl rfl rfl ?_ | refine gny_ldH 15 rfl rfl rfl ‹HRow _ _ 0 _› rfl ?_ | refine gny_T 15 rfl rfl rfl ?_ | refine gny_F 15 rfl rfl rfl ?_ | refine gny_B 15 rfl rfl rfl ?_ | refine gny_skip 15 rfl rfl ?_ | refine gny_sp 15 rfl rfl rfl ?_ | refine gny_sB 15 rfl rfl rfl ?_ | refine gny_sld 15 rfl rfl rfl rfl ?_ | refine gny_sldH 15 rfl rfl rfl ‹HRow _ _ 0 _› rfl ?_ | refine gny_ldN 15 rfl rfl rfl rfl ?_ | refine gny_bld 15 rfl rfl rfl ?_)
  refine gny_call 16 rfl rfl rfl (hownB h1013) fun r14 H14 B hl14 ⟨cs14, er, hcs14, eB⟩ => ?_
  subst er eB
  have h1014 : H10.le H14 := h1013.trans hl14
  refine ⟨(by (repeat (first | exact Sub.refl _ | exact Sub.nil _ | (apply sub_pick; (repeat (first | exact Has.here | apply Has.there)); skip) | apply Sub.drop))), ?_⟩
  refine any_L (L' := tabO H14 p (applyW (prepT t2 ⟨x1, x2, x3⟩ (takeW (clipW w)) cs12) ⟨x1, x2, x3⟩ true (takeW (clipW w))) :: row p4 27 [I x1, I x2, I x3] :: row p8 55 [.slice qb1 m.Held.length qc1, .slice qb2 m.Prep.length qc2] :: row p11 30 [I w.Robot, .slice wb1 (clipW w).Take.length wc1, nilS] :: row p12 30 [I w.Robot, nilS, .slice wb1 (clipW w).Take.length wc1] :: R) ?_ ?_
  · refine Sub.trans ?_ (tab_up hl14)
    (repeat (first | exact Sub.refl _ | exact Sub.nil _ | (apply sub_pick; (repeat (first | exact Has.here | apply Has.there)); skip) | apply Sub.drop))
  refine gny_call 17 rfl rfl rfl (prepare_spec (W0 := W0) (H := H14) (p := p) (s := applyW (prepT t2 ⟨x1, x2, x3⟩ (takeW (clipW w)) cs12) ⟨x1, x2, x3⟩ true (takeW (clipW w))) (x := ⟨x1, x2, x3⟩) (w := backW (clipW w)) (cw := cs14) hx hcs14 hbk16) fun r15 H15 B hl15 ⟨er, cs15, hcs15, eB⟩ => ?_
  subst er eB
  have h1015 : H10.le H15 := h1014.trans hl15
  refine ⟨(by (repeat (first | exact Sub.refl _ | exact Sub.nil _ | (apply sub_pick; (repeat (first | exact Has.here | apply Has.there)); skip) | apply Sub.drop))), ?_⟩
  obtain ⟨_, e2, S6, J6, _⟩ := hrt cs12 cs15
  rw [e2, if_pos rfl]
  have J5 := J4.prep (cs := cs15) hcw.backW hx' e2
  generalize applyW (prepT t2 ⟨x1, x2, x3⟩ (takeW (clipW w)) cs12) ⟨x1, x2, x3⟩ true (takeW (clipW w)) = t4 at S6 J6 J5 ⊢
  have hap5 := apply_prep (n := 60) (s := t4) (x := ⟨x1, x2, x3⟩) (w := backW (clipW w)) (cs := cs15) (yes := true)
  (first | refine gny_p 18 rfl rfl rfl ?_ | refine gny_ld 18 rfl rfl rfl rfl ?_ | refine gny_ldH 18 rfl rfl rfl ‹HRow _ _ 0 _› rfl ?_ | refine gny_T 18 rfl rfl rfl ?_ | refine gny_F 18 rfl rfl rfl ?_ | refine gny_B 18 rfl rfl rfl ?_ | refine gny_skip 18 rfl rfl ?_ | refine gny_sp 18 rfl rfl rfl ?_ | refine gny_sB 18 rfl rfl rfl ?_ | refine gny_sld 18 rfl rfl rfl rfl ?_ | refine gny_sldH 18 rfl rfl rfl ‹HRow _ _ 0 _› rfl ?_ | refine gny_ldN 18 rfl rfl rfl rfl ?_ | refine gny_bld 18 rfl rfl rfl ?_); (first | refine gny_p 19 rfl rfl rfl ?_ | refine gny_ld 19 rfl rfl rfl rfl ?_ | refine gny_ldH 19 rfl rfl rfl ‹HRow _ _ 0 _› rfl ?_ | refine gny_T 19 rfl rfl rfl ?_ | refine gny_F 19 rfl rfl rfl ?_ | refine gny_B 19 rfl rfl rfl ?_ | refine gny_skip 19 rfl rfl ?_ | refine gny_sp 19 rfl rfl rfl ?_ | refine gny_sB 19 rfl rfl rfl ?_ | refine gny_sld 19 rfl rfl rfl rfl ?_ | refine gny_sldH 19 rfl rfl rfl ‹HRow _ _ 0 _› rfl ?_ | refine gny_ldN 19 rfl rfl rfl rfl ?_ | refine gny_bld 19 rfl rfl rfl ?_); (first | refine gny_p 20 rfl rfl rfl ?_ | refine gny_ld 20 rfl rfl rfl rfl ?_ | refine gny_ldH 20 rfl rfl rfl ‹HRow _ _ 0 _› rfl ?_ | refine gny_T 20 rfl rfl rfl ?_ | refine gny_F 20 rfl rfl rfl ?_ | refine gny_B 20 rfl rfl rfl ?_ | refine gny_skip 20 rfl rfl ?_ | refine gny_sp 20 rfl rfl rfl ?_ | refine gny_sB 20 rfl rfl rfl ?_ | refine gny_sld 20 rfl rfl rfl rfl ?_ | refine gny_sldH 20 rfl rfl rfl ‹HRow _ _ 0 _› rfl ?_ | refine gny_ldN 20 rfl rfl rfl rfl ?_ | refine gny_bld 20 rfl rfl rfl ?_); (first | refine gny_p 21 rfl rfl rfl ?_ | refine gny_ld 21 rfl rfl rfl rfl ?_ | refine gny_ldH 21 rfl rfl rfl ‹HRow _ _ 0 _› rfl ?_ | refine gny_T 21 rfl rfl rfl ?_ | refine gny_F 21 rfl rfl rfl ?_ | refine gny_B 21 rfl rfl rfl ?_ | refine gny_skip 21 rfl rfl ?_ | refine gny_sp 21 rfl rfl rfl ?_ | refine gny_sB 21 rfl rfl rfl ?_ | refine gny_sld 21 rfl rfl rfl rfl ?_ | refine gny_sldH 21 rfl rfl rfl ‹HRow _ _ 0 _› rfl ?_ | refine gny_ldN 21 rfl rfl rfl rfl ?_ | refine gny_bld 21 rfl rfl rfl ?_); (first | refine gny_p 22 rfl rfl rfl ?_ | refine gny_ld 22 rfl rfl rfl rfl ?_ | refine gny_ldH 22 rfl rfl rfl ‹HRow _ _ 0 _› rfl ?_ | refine gny_T 22 rfl rfl rfl ?_ | refine gny_F 22 rfl rfl rfl ?_ | refine gny_B 22 rfl rfl rfl ?_ | refine gny_skip 22 rfl rfl ?_ | refine gny_sp 22 rfl rfl rfl ?_ | refine gny_sB 22 rfl rfl rfl ?_ | refine gny_sld 22 rfl rfl rfl rfl ?_ | refine gny_sldH 22 rfl rfl rfl ‹HRow _ _ 0 _› rfl ?_ | refine gny_ldN 22 rfl rfl rfl rfl ?_ | refine gny_bld 22 rfl rfl rfl ?_)
  refine gny_call 23 rfl rfl rfl (apply_spec (W0 := W0) (H := H15) (p := p) (s := prepT t4 ⟨x1, x2, x3⟩ (backW (clipW w)) cs15) (x := ⟨x1, x2, x3⟩) (yes := true) (J5.ks_ok _)) fun r16 H16 B hl16 ⟨er, eB⟩ => ?_
  subst er eB
  have h1016 : H10.le H16 := h1015.trans hl16
  refine ⟨(by (repeat (first | exact Sub.refl _ | exact Sub.nil _ | (apply sub_pick; (repeat (first | exact Has.here | apply Has.there)); skip) | apply Sub.drop))), ?_⟩
  rw [hap5.1, hap5.2]
  (first | refine gny_p 24 rfl rfl rfl ?_ | refine gny_ld 24 rfl rfl rfl rfl ?_ | refine gny_ldH 24 rfl rfl rfl ‹HRow _ _ 0 _› rfl ?_ | refine gny_T 24 rfl rfl rfl ?_ | refine gny_F 24 rfl rfl rfl ?_ | refine gny_B 24 rfl rfl rfl ?_ | refine gny_skip 24 rfl rfl ?_ | refine gny_sp 24 rfl rfl rfl ?_ | refine gny_sB 24 rfl rfl rfl ?_ | refine gny_sld 24 rfl rfl rfl rfl ?_ | refine gny_sldH 24 rfl rfl rfl ‹HRow _ _ 0 _› rfl ?_ | refine gny_ldN 24 rfl rfl rfl rfl ?_ | refine gny_bld 24 rfl rfl rfl ?_); (first | refine gny_p 25 rfl rfl rfl ?_ | refine gny_ld 25 rfl rfl rfl rfl ?_ | refine gny_ldH 25 rfl rfl rfl ‹HRow _ _ 0 _› rfl ?_ | refine gny_T 25 rfl rfl rfl ?_ | refine gny_F 25 rfl rfl rfl ?_ | refine gny_B 25 rfl rfl rfl ?_ | refine gny_skip 25 rfl rfl ?_ | refine gny_sp 25 rfl rfl rfl ?_ | refine gny_sB 25 rfl rfl rfl ?_ | refine gny_sld 25 rfl rfl rfl rfl ?_ | refine gny_sldH 25 rfl rfl rfl ‹HRow _ _ 0 _› rfl ?_ | refine gny_ldN 25 rfl rfl rfl rfl ?_ | refine gny_bld 25 rfl rfl rfl ?_); (first | refine gny_p 26 rfl rfl rfl ?_ | refine gny_ld 26 rfl rfl rfl rfl ?_ | refine gny_ldH 26 rfl rfl rfl ‹HRow _ _ 0 _› rfl ?_ | refine gny_T 26 rfl rfl rfl ?_ | refine gny_F 26 rfl rfl rfl ?_ | refine gny_B 26 rfl rfl rfl ?_ | refine gny_skip 26 rfl rfl ?_ | refine gny_sp 26 rfl rfl rfl ?_ | refine gny_sB 26 rfl rfl rfl ?_ | refine gny_sld 26 rfl rfl rfl rfl ?_ | refine gny_sldH 26 rfl rfl rfl ‹HRow _ _ 0 _› rfl ?_ | refine gny_ldN 26 rfl rfl rfl rfl ?_ | refine gny_bld 26 rfl rfl rfl ?_); (first | refine gny_p 27 rfl rfl rfl ?_ | refine gny_ld 27 rfl rfl rfl rfl ?_ | refine gny_ldH 27 rfl rfl rfl ‹HRow _ _ 0 _› rfl ?_ | refine gny_T 27 rfl rfl rfl ?_ | refine gny_F 27 rfl rfl rfl ?_ | refine gny_B 27 rfl rfl rfl ?_ | refine gny_skip 27 rfl rfl ?_ | refine gny_sp 27 rfl rfl rfl ?_ | refine gny_sB 27 rfl rfl rfl ?_ | refine gny_sld 27 rfl rfl rfl rfl ?_ | refine gny_sldH 27 rfl rfl rfl ‹HRow _ _ 0 _› rfl ?_ | refine gny_ldN 27 rfl rfl rfl rfl ?_ | refine gny_bld 27 rfl rfl rfl ?_); (first | refine gny_p 28 rfl rfl rfl ?_ | refine gny_ld 28 rfl rfl rfl rfl ?_ | refine gny_ldH 28 rfl rfl rfl ‹HRow _ _ 0 _› rfl ?_ | refine gny_T 28 rfl rfl rfl ?_ | refine gny_F 28 rfl rfl rfl ?_ | refine gny_B 28 rfl rfl rfl ?_ | refine gny_skip 28 rfl rfl ?_ | refine gny_sp 28 rfl rfl rfl ?_ | refine gny_sB 28 rfl rfl rfl ?_ | refine gny_sld 28 rfl rfl rfl rfl ?_ | refine gny_sldH 28 rfl rfl rfl ‹HRow _ _ 0 _› rfl ?_ | refine gny_ldN 28 rfl rfl rfl rfl ?_ | refine gny_bld 28 rfl rfl rfl ?_)
  refine gny_call 29 rfl rfl rfl (tells_spec (W0 := W0) (H := H16) (p := p) (m := m) (n := 66) J6 (by omega) (S6.rel hR) (RdOk.mono (R := rTable) (hlB.trans h1016) hT3)) fun r17 H17 B hl17 ⟨er, eB⟩ => ?_
  subst er eB
  have h1017 : H10.le H17 := h1016.trans hl17
  refine ⟨(by (repeat (first | exact Sub.refl _ | exact Sub.nil _ | (apply sub_pick; (repeat (first | exact Has.here | apply Has.there)); skip) | apply Sub.drop))), ?_⟩
  (first | refine gny_p 30 rfl rfl rfl ?_ | refine gny_ld 30 rfl rfl rfl rfl ?_ | refine gny_ldH 30 rfl rfl rfl ‹HRow _ _ 0 _› rfl ?_ | refine gny_T 30 rfl rfl rfl ?_ | refine gny_F 30 rfl rfl rfl ?_ | refine gny_B 30 rfl rfl rfl ?_ | refine gny_skip 30 rfl rfl ?_ | refine gny_sp 30 rfl rfl rfl ?_ | refine gny_sB 30 rfl rfl rfl ?_ | refine gny_sld 30 rfl rfl rfl rfl ?_ | refine gny_sldH 30 rfl rfl rfl ‹HRow _ _ 0 _› rfl ?_ | refine gny_ldN 30 rfl rfl rfl rfl ?_ | refine gny_bld 30 rfl rfl rfl ?_)
  refine any_rest rfl ?_
  refine walk ?_
  refine fin0 ?_
  exact ⟨rfl, rfl⟩
end Go.Proofs.YtkhbfjkioehgfaaGreatDoor
