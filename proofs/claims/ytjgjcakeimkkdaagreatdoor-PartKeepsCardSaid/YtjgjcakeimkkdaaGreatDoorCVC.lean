/- PartKeeps, walked. -/
import Derived.Test.YtjgjcakeimkkdaaGreatDoorM13
set_option linter.unusedVariables false
set_option linter.unusedSimpArgs false
namespace Go.Proofs.YtjgjcakeimkkdaaGreatDoor
open Go Go.Sx Go.Proofs
theorem hear_prep {n : Nat} {s : PS} {m : Message} {cs : List Value} (I : PInv n s) (hf : forMe s m) (k : m.Kind = 1) :
    (isD (hearS s m cs) m.Txn ∧ hearOut s m = []) ∨ (¬ isD (hearS s m cs) m.Txn ∧ hearOut s m = [voteM s m true] ∧ isP (hearS s m cs) m.Txn) ∨ (¬ isD (hearS s m cs) m.Txn ∧ hearOut s m = [voteM s m false] ∧ ¬ isP (hearS s m cs) m.Txn) := by
  rcases hear_cases s m with ⟨h1, h2, h3⟩ | ⟨_, _, hd, hp, h1, h2, h3⟩ | ⟨_, _, hd, hp, he, h1, h2, h3⟩ | ⟨_, _, hd, hp, he, h1, h2, h3⟩ | ⟨_, k', hp, h1, h2, h3⟩ | ⟨_, k', hp, h1, h2, h3⟩
  · left
    rw [h3]
    refine ⟨?_, h1⟩
    refine Classical.byContradiction fun hd => ?_
    unfold hearOut at h1
    rw [if_neg (fun h => h hf), if_pos k, if_neg hd] at h1
    cases h1
  · right; left
    rw [h3]; exact ⟨hd, h1, hp⟩
  · right; left
    rw [h3]
    exact ⟨hd, h1, isP_iff.2 ⟨m.Work, by show gW (prepT s.t m.Txn m.Work cs) m.Txn.k = _; rw [gW_prep, if_pos rfl]⟩⟩
  · right; right
    rw [h3]; exact ⟨hd, h1, hp⟩
  · omega
  · omega
theorem hear_dec {n : Nat} {s : PS} {m : Message} {cs : List Value} (I : PInv n s) (hf : forMe s m) (k : m.Kind = 3) (hp : isP s m.Txn) :
    hearOut s m = [ackM s m] ∧ hearRec s m = [recA m] ∧ ¬ isP (hearS s m cs) m.Txn := by
  rcases hear_cases s m with ⟨h1, h2, h3⟩ | ⟨_, k', hd, hp', h1, h2, h3⟩ | ⟨_, k', hd, hp', he, h1, h2, h3⟩ | ⟨_, k', hd, hp', he, h1, h2, h3⟩ | ⟨_, k', hp', h1, h2, h3⟩ | ⟨_, k', hp', h1, h2, h3⟩
  · exfalso
    unfold hearOut at h1
    rw [if_neg (fun h => h hf), if_neg (by omega), if_pos k] at h1
    cases h1
  · omega
  · omega
  · omega
  · refine ⟨h1, h2, ?_⟩
    rw [h3]
    intro h
    obtain ⟨w, hw⟩ := isP_iff.1 h
    have hw' : gW (applyT s.t m.Txn m.Yes) m.Txn.k = some w := hw
    rw [applyT_P I, if_pos rfl] at hw'; cases hw'
  · exact absurd hp hp'
set_option maxHeartbeats 4000000 in
theorem phas_spec {W0 : World} {H : Heap} {p : Nat} {s : PS} {x : Txn} (hs : TsOk s.t) (hn : (s.t.works.map (·.1)).Nodup) :
    Ct Tryz.prog 19 #[.pointer (some ⟨p, 0, none⟩), .agg x.cv.toArray] W0 H [partO H p s] (fun r H' B => r = .bool (decide (isP s x)) ∧ B = [partO H' p s]) := by
  refine Ct.go (vs := [.pointer (some ⟨p, 0, none⟩), .agg x.cv.toArray]) fun R => ?_
  have hmem := isP_mem (x := x) hn
  obtain ⟨x1, x2, x3⟩ := x
  refine ex_open (A := partO H p s) (σ := Nat × Nat) (B := fun a => [pRow p a.1 (PS.sh s) a.2, tabO H a.1 (PS.t s), dMap H a.2 s]) (p := fun _ => True) (by repeat (first | exact Has.here | apply Has.there)) (fun h ⟨tp, db, hbig⟩ => ⟨(tp, db), trivial, hbig⟩) fun ⟨tp, db⟩ _ => ?_
  dsimp only
  refine walk ?_
  refine ops_box rfl rfl fun p3 _ => ?_
  refine walk ?_
  refine ops_call rfl rfl (prepared_spec (W0 := W0) (H := H) (p := tp) hs) fun r1 H1 B hl1 eB => ?_
  subst eB
  refine ops_freeze r1 fun H2 hl2 hsl => ?_
  obtain ⟨b0, c0, rfl, hc0, hd0⟩ := hsl.1.shape
  generalize prepL s.t = l at hsl hmem hc0 ⊢
  refine ops_L (L' := row p3 29 [I x1, I x2, I x3] :: partO H2 p s :: R) ?_ ?_
  · refine Sub.trans ?_ (Sub.cons (part_shut (H1 := H1) (H2 := H) (tp := tp) (db := db) hl2 (hl1.trans hl2)))
    (repeat (first | exact Sub.refl _ | exact Sub.nil _ | (apply sub_pick; (repeat (first | exact Has.here | apply Has.there)); skip) | apply Sub.drop))
  refine walk ?_
  refine ex_loop (σ := Nat) (fun k => k ≤ l.length ∧ ∀ q ∈ l.take k, q.Txn ≠ ⟨x1, x2, x3⟩) (fun k => [(0, .pointer (some ⟨p, 0, none⟩)), (3, .pointer (some ⟨p3, 0, none⟩)), (11, .slice b0 l.length c0), (12, I l.length), (13, I k)]) (fun _ => H2) (fun _ => row p3 29 [I x1, I x2, I x3] :: partO H2 p s :: R) (fun k => l.length - k) 0 ⟨Nat.zero_le _, fun q hq => (by simp at hq)⟩ fun k ⟨hk0, hno⟩ K hL => ?_
  refine walk ?_
  refine ex_if rfl (fun hk => ?_) (fun hk => ?_)
  · have hk1 : k < l.length := by omega
    have ht := List.take_succ_eq_append_getElem hk1
    refine walk ?_
    refine ops_ixp rfl rfl hsl.1 hk1 fun b o cc hr hc => ?_
    have hm := List.getElem_mem hk1
    generalize l[k] = q at hr hc ht hm
    obtain ⟨qk, ⟨qa, qb, qc⟩, ⟨qr, qt, qd⟩, qy, qp⟩ := q
    obtain ⟨w1, w2, w3, rfl, g1, g2, g3, g4, g5, g6, g7, g8⟩ := hc
    dsimp only at g1 g2 g3 g4 g5 g6 g7 g8
    obtain ⟨sb1, sc1, rfl, _, _⟩ := g6.1.shape
    obtain ⟨sb2, sc2, rfl, _, _⟩ := g7.1.shape
    obtain ⟨sb3, sc3, rfl, _, _⟩ := g8.1.shape
    change HRow H2 b o [I qk, I qa, I qb, I qc, I qr, .slice sb1 qt.length sc1, .slice sb2 qd.length sc2, .bool qy, .slice sb3 qp.length sc3] at hr
    refine ops_ldNH rfl rfl hr rfl ?_
    refine ops_alloc rfl fun p6 _ => ?_
    refine walk ?_
    refine ex_if rfl (fun hq => ?_) (fun hq => ?_)
    · refine walk ?_
      refine finB [partO H2 p s] ?_
      rw [decide_eq_true (hmem.2 ⟨_, hm, hq⟩)]
      exact ⟨rfl, rfl⟩
    refine walk ?_
    refine out_next hL (k + 1) ⟨by omega, fun q hm2 => ?_⟩
    rw [ht, List.mem_append, List.mem_singleton] at hm2
    rcases hm2 with hm2 | rfl
    · exact hno q hm2
    · exact hq
  clear hL
  obtain rfl : k = l.length := by omega
  rw [List.take_length] at hno
  refine walk ?_
  refine finB [partO H2 p s] ?_
  rw [decide_eq_false fun h => (let ⟨q, hq, e⟩ := hmem.1 h; hno q hq e)]
  exact ⟨rfl, rfl⟩
def m1K (sh : Int) (m : Message) : Message := { clipM m with Kind := 1, To := sh, From := m.Txn.Node }
def m2K (sh : Int) (m : Message) : Message := { m1K sh m with Kind := 3, Yes := true }
theorem clip_m1 {sh : Int} {m : Message} : clipM (m1K sh m) = m1K sh m := by simp [m1K, clipM, clipW, List.take_take]
theorem clip_m2 {sh : Int} {m : Message} : clipM (m2K sh m) = m2K sh m := by simp [m2K, m1K, clipM, clipW, List.take_take]
set_option maxHeartbeats 16000000 in
set_option maxRecDepth 20000 in
theorem partKeeps_spec {W0 : World} {H : Heap} {v : Value} {sh : Int} {script : List Op} {cm : List Value} {m : Message} (hP : PkH H) (hsh : fits sh) (h0 : SlB rOp 21 232 H v script) (hm : rMessage H cm m) :
    Ct Tryz.prog 5 #[I sh, v, .agg cm.toArray] W0 H [] (fun r H' B => r = .bool true ∧ B = []) := by
  refine Ct.go (vs := [I sh, v, .agg cm.toArray]) fun R => ?_
  obtain ⟨b0, c0, rfl, hc0, hd0⟩ := h0.1.shape
  have hm0 := hm
  obtain ⟨t1, t2, t3, t4, rfl, f1, f2, f3, f4, f5, f6, f7, h1, h2, f8, f9, f10, f11, h3, f12, f13, f14, h4⟩ := hm
  obtain ⟨b5, c5, rfl, _, _⟩ := h1.1.shape
  obtain ⟨b6, c6, rfl, _, _⟩ := h2.1.shape
  obtain ⟨b7, c7, rfl, _, _⟩ := h3.1.shape
  obtain ⟨b8, c8, rfl, _, _⟩ := h4.1.shape
  refine walk ?_
  refine ops_box rfl rfl fun p5 _ => ?_
  refine walk ?_
  refine ops_call rfl rfl (pbuilt_spec hP hsh h0.1) fun r1 H1 B hl1 ⟨p, s, x, c, er, hc, I0, hR, hse, eB⟩ => ?_
  subst er eB
  obtain ⟨q1, q2, q3, rfl, hxs, hq1, hq2, hq3⟩ := hc
  obtain ⟨qb1, qc1, rfl, _, _⟩ := hq1.1.shape
  obtain ⟨qb2, qc2, rfl, _, _⟩ := hq2.1.shape
  obtain ⟨qb3, qc3, rfl, _, _⟩ := hq3.1.shape
  refine walk ?_
  refine ops_alloc rfl fun p8 _ => ?_
  refine walk ?_
  refine ops_call (vs := []) rfl rfl (pawake_spec (hP.mono hl1)) fun r2 H2 B hl2 ⟨er, eB⟩ => ?_
  subst er eB
  refine walk ?_
  refine ops_call rfl rfl (pOwn_spec (RdOk.mono (R := rMessage) (hl1.trans hl2) hm0)) fun r3 H3 B hl3 ⟨cs3, er, hcs3, eB⟩ => ?_
  subst er eB
  have hok1 : OkM (m1K sh m) := ⟨(clipM_ok hm0).w, (clipM_ok hm0).x⟩
  obtain ⟨u1, u2, u3, u4, rfl, k1, k2, k3, k4, k5, k6, k7, j1, j2, k8, k9, k10, k11, j3, k12, k13, k14, j4⟩ := id hcs3
  obtain ⟨db1, dc1, rfl, _, _⟩ := j1.1.shape
  obtain ⟨db2, dc2, rfl, _, _⟩ := j2.1.shape
  obtain ⟨db3, dc3, rfl, _, _⟩ := j3.1.shape
  obtain ⟨db4, dc4, rfl, _, _⟩ := j4.1.shape
  refine walk ?_
  have hlit := fit_lit
  have hcs1 : rMessage H3 ((m1K sh m).cv (.slice db1 (clipM m).Work.Take.length dc1) (.slice db2 (clipM m).Work.Drop.length dc2) (.slice db3 (clipM m).Call.Route.Cells.length dc3) (.slice db4 (clipM m).Reply.Route.Cells.length dc4)) (m1K sh m) := ⟨_, _, _, _, rfl, k4, hsh, hlit.2.1, k4, k5, k6, k7, j1, j2, k8, k9, k10, k11, j3, k12, k13, k14, j4⟩
  have hcl := pOwn_spec (W0 := W0) hcs1
  rw [clip_m1] at hcl
  refine ops_call rfl rfl hcl fun r4 H4 B hl4 ⟨cs4, er, hcs4, eB⟩ => ?_
  subst er eB
  refine ops_L (L' := partO H4 p s :: row p5 43 ((m1K sh m).cv (.slice db1 (clipM m).Work.Take.length dc1) (.slice db2 (clipM m).Work.Drop.length dc2) (.slice db3 (clipM m).Call.Route.Cells.length dc3) (.slice db4 (clipM m).Reply.Route.Cells.length dc4)) :: R) ?_ ?_
  · refine Sub.trans ?_ (part_up (hl2.trans (hl3.trans hl4)))
    (repeat (first | exact Sub.refl _ | exact Sub.nil _ | (apply sub_pick; (repeat (first | exact Has.here | apply Has.there)); skip) | apply Sub.drop))
  have hfm : forMe s (m1K sh m) := ⟨hse.symm, rfl⟩
  refine walk ?_
  refine ops_call rfl rfl (hear_spec (W0 := W0) (H := H4) (p := p) (n := 60) (s := s) (m := m1K sh m) (hP.mono (hl1.trans (hl2.trans (hl3.trans hl4)))) I0 (by omega) hok1 hcs4) fun r5 H5 B hl5 ⟨v1, v2, cs5, er, eB⟩ => ?_
  subst er eB
  have hinv := I0.hear (cs := cs5) hok1
  have hcase := hear_prep (cs := cs5) I0 hfm rfl
  have hsh1 : (hearS s (m1K sh m) cs5).sh = sh := hearS_sh.trans hse
  generalize hearS s (m1K sh m) cs5 = s1 at hinv hcase hsh1 ⊢
  generalize hearOut s (m1K sh m) = os at hcase ⊢
  refine ops_freeze v1 fun H6 hl6 hsm => ?_
  obtain ⟨ba, ca, rfl, _, _⟩ := hsm.1.shape
  refine ops_shape v2 fun bb cb e _ _ _ => ?_
  subst e
  refine ops_L (L' := partO H6 p s1 :: row p5 43 ((m1K sh m).cv (.slice db1 (clipM m).Work.Take.length dc1) (.slice db2 (clipM m).Work.Drop.length dc2) (.slice db3 (clipM m).Call.Route.Cells.length dc3) (.slice db4 (clipM m).Reply.Route.Cells.length dc4)) :: R) ?_ ?_
  · refine Sub.trans ?_ (part_up hl6)
    (repeat (first | exact Sub.refl _ | exact Sub.nil _ | (apply sub_pick; (repeat (first | exact Has.here | apply Has.there)); skip) | apply Sub.drop))
  refine walk ?_
  refine ops_call rfl rfl (done_spec (W0 := W0) (H := H6) (p := p) hinv (by omega)) fun r7 H7 B hl7 eB => ?_
  subst eB
  refine ops_freeze r7 fun H8 hl8 hsd => ?_
  obtain ⟨bd, cd, rfl, hcd, hdd⟩ := hsd.1.shape
  refine ops_L (L' := partO H8 p s1 :: row p5 43 ((m1K sh m).cv (.slice db1 (clipM m).Work.Take.length dc1) (.slice db2 (clipM m).Work.Drop.length dc2) (.slice db3 (clipM m).Call.Route.Cells.length dc3) (.slice db4 (clipM m).Reply.Route.Cells.length dc4)) :: R) ?_ ?_
  · refine Sub.trans ?_ (part_up hl8)
    (repeat (first | exact Sub.refl _ | exact Sub.nil _ | (apply sub_pick; (repeat (first | exact Has.here | apply Has.there)); skip) | apply Sub.drop))
  have hsm8 := hsm.mono (hl7.trans hl8)
  have hdm := fun d : PartDone => doneL_mem hinv.dd (d := d)
  generalize doneL s1 = dl at hsd hdm hcd ⊢
  refine walk ?_
  refine ex_loop (σ := Nat) (fun k => k ≤ dl.length ∧ ∀ q ∈ dl.take k, q.Txn ≠ m.Txn) (fun k => [(0, I sh), (1, .slice b0 script.length c0), (5, .pointer (some ⟨p5, 0, none⟩)), (7, .pointer (some ⟨p, 0, none⟩)), (10, .slice ba os.length ca), (47, .slice bd dl.length cd), (48, I dl.length), (49, I k)]) (fun _ => H8) (fun _ => partO H8 p s1 :: row p5 43 ((m1K sh m).cv (.slice db1 (clipM m).Work.Take.length dc1) (.slice db2 (clipM m).Work.Drop.length dc2) (.slice db3 (clipM m).Call.Route.Cells.length dc3) (.slice db4 (clipM m).Reply.Route.Cells.length dc4)) :: R) (fun k => dl.length - k) 0 ⟨Nat.zero_le _, fun q hq => (by simp at hq)⟩ fun k ⟨hk0, hno⟩ K hL => ?_
  refine walk ?_
  refine ex_if rfl (fun hk => ?_) (fun hk => ?_)
  · have hk1 : k < dl.length := by omega
    have ht := List.take_succ_eq_append_getElem hk1
    refine walk ?_
    refine ops_ixp rfl rfl hsd.1 hk1 fun b o cc hr hc => ?_
    have hm := List.getElem_mem hk1
    generalize dl[k] = q at hr hc ht hm
    obtain ⟨⟨qa, qb, qc⟩, qu⟩ := q
    obtain ⟨rfl, _⟩ := hc
    change HRow H8 b o [I qa, I qb, I qc, I qu] at hr
    refine ops_ldNH rfl rfl hr rfl ?_
    refine ops_alloc rfl fun p13 _ => ?_
    refine walk ?_
    refine ex_if rfl (fun hq => ?_) (fun hq => ?_)
    · have hqe : (⟨qa, qb, qc⟩ : Txn) = m.Txn := hq
      have hd : isD s1 (m1K sh m).Txn := by
        have := (hdm _).1 hm
        rw [hqe] at this
        unfold isD
        show (mget m.Txn.k s1.done).isSome = true
        rw [this]; rfl
      rcases hcase with ⟨_, rfl⟩ | ⟨hnd, _⟩ | ⟨hnd, _⟩
      · refine walk ?_
        refine fin0 ?_
        exact ⟨rfl, rfl⟩
      · exact absurd hd hnd
      · exact absurd hd hnd
    refine walk ?_
    refine out_next hL (k + 1) ⟨by omega, fun q hm2 => ?_⟩
    rw [ht, List.mem_append, List.mem_singleton] at hm2
    rcases hm2 with hm2 | rfl
    · exact hno q hm2
    · exact hq
  clear hL
  obtain rfl : k = dl.length := by omega
  rw [List.take_length] at hno
  rcases hcase with ⟨hd, _⟩ | hcase
  · exfalso
    unfold isD at hd
    cases hg : mget (m1K sh m).Txn.k s1.done with
    | none => rw [hg] at hd; cases hd
    | some u => exact hno ⟨m.Txn, u⟩ ((hdm ⟨m.Txn, u⟩).2 hg) rfl
  obtain ⟨b1, hos, hb1⟩ : ∃ b1 : Bool, os = [voteM s (m1K sh m) b1] ∧ (isP s1 m.Txn ↔ b1 = true) := by
    rcases hcase with ⟨_, e, h⟩ | ⟨_, e, h⟩
    · exact ⟨true, e, ⟨fun _ => rfl, fun _ => h⟩⟩
    · exact ⟨false, e, ⟨fun hh => absurd hh h, fun hh => (by cases hh)⟩⟩
  subst hos
  have hhas := phas_spec (W0 := W0) (H := H8) (p := p) (s := s1) (x := m.Txn) (hinv.t.ok (by omega)) hinv.t.wd
  have hdb : decide (isP s1 m.Txn) = b1 := by cases b1 <;> simp [hb1]
  rw [hdb] at hhas
  have hone : [voteM s (m1K sh m) b1].length = 1 := rfl
  rw [hone]
  refine walk ?_
  refine ops_ixp rfl rfl hsm8.1 (show 0 < [voteM s (m1K sh m) b1].length by rw [hone]; omega) fun b o cc hr hc => ?_
  obtain ⟨w1, w2, w3, w4, rfl, _⟩ := hc
  change HRow H8 b o [I s.sh, I m.Txn.Node, I 2, I m.Txn.Node, I m.Txn.Life, I m.Txn.Count, I 0, w1, w2, .bool b1, I 0, I 0, I 0, I 0, w3, I 0, I 0, I 0, w4] at hr
  refine walk ?_
  refine ops_ixp rfl rfl hsm8.1 (show 0 < [voteM s (m1K sh m) b1].length by rw [hone]; omega) fun bx ox ccx hrx hcx => ?_
  obtain ⟨y1, y2, y3, y4, rfl, _⟩ := hcx
  change HRow H8 bx ox [I s.sh, I m.Txn.Node, I 2, I m.Txn.Node, I m.Txn.Life, I m.Txn.Count, I 0, y1, y2, .bool b1, I 0, I 0, I 0, I 0, y3, I 0, I 0, I 0, y4] at hrx
  cases b1 with
  | false =>
    refine walk ?_
    refine ops_call rfl rfl hhas fun r9 H9 B hl9 ⟨er, eB⟩ => ?_
    subst er eB
    refine walk ?_
    refine fin0 ?_
    exact ⟨rfl, rfl⟩
  | true =>
  have hpx : isP s1 m.Txn := hb1.2 rfl
  refine walk ?_
  refine ex_loop (σ := Nat × PS × Heap) (fun u => (u.1 ≤ script.length ∧ u.1 ≤ 60) ∧ H8.le u.2.2 ∧ PInv (61 + u.1) u.2.1 ∧ isP u.2.1 m.Txn ∧ u.2.1.sh = sh) (fun u => [(0, I sh), (1, .slice b0 script.length c0), (5, .pointer (some ⟨p5, 0, none⟩)), (7, .pointer (some ⟨p, 0, none⟩)), (14, I u.1)]) (fun u => u.2.2) (fun u => partO u.2.2 p u.2.1 :: row p5 43 ((m1K sh m).cv (.slice db1 (clipM m).Work.Take.length dc1) (.slice db2 (clipM m).Work.Drop.length dc2) (.slice db3 (clipM m).Call.Route.Cells.length dc3) (.slice db4 (clipM m).Reply.Route.Cells.length dc4)) :: R) (fun u => script.length - u.1) (0, s1, H8) ⟨⟨Nat.zero_le _, by omega⟩, .refl _, hinv, hpx, hsh1⟩ fun ⟨k, s2, HK⟩ ⟨⟨hk0, hk60⟩, hlK, hI, hpk, hshk⟩ K hL => ?_
  simp only at hk0 hk60 hlK hI hpk hshk
  dsimp only
  refine walkG ?_
  refine ex_if rfl (fun hk => ?_) (fun hk => ?_)
  · have hk1 : k < script.length := by omega
    have hsl := h0.1.mono (hl1.trans (hl2.trans (hl3.trans (hl4.trans (hl5.trans (hl6.trans (hl7.trans (hl8.trans hlK))))))))
    obtain ⟨⟨ok, om, on⟩, hoe⟩ : ∃ y, script[k] = y := ⟨_, rfl⟩
    by_cases hx : ok = 2
    · refine walk ?_
      refine ops_ixp rfl rfl hsl hk1 fun b o cc hr hc => ?_
      rw [hoe] at hc
      obtain ⟨z1, z2, z3, z4, rfl, _⟩ := hc
      refine walk ?_
      exact out_next hL (k + 1, s2, HK) ⟨⟨by simp only; omega, by simp only; omega⟩, hlK, hI.more (by omega), hpk, hshk⟩
    by_cases hx3 : om.Kind = 3
    · refine walk ?_
      refine ops_ixp rfl rfl hsl hk1 fun b o cc hr hc => ?_
      rw [hoe] at hc
      obtain ⟨z1, z2, z3, z4, rfl, _⟩ := hc
      refine walk ?_
      refine ops_ixp rfl rfl hsl hk1 fun bx' ox' ccx' hrx' hcx' => ?_
      rw [hoe] at hcx'
      obtain ⟨z5, z6, z7, z8, rfl, _⟩ := hcx'
      have hrx2 : HRow HK bx' (ox' + 1) [I om.From, I om.To, I om.Kind, I om.Txn.Node, I om.Txn.Life, I om.Txn.Count, I om.Work.Robot, z5, z6, .bool om.Yes, I om.ID, I om.Call.Verb, I om.Call.Epoch, I om.Call.Route.Start, z7, I om.Reply.Code, I om.Reply.Epoch, I om.Reply.Route.Start, z8] := HRow.take (k := 19) (HRow.drop (k := 1) hrx')
      refine walk ?_
      refine ops_ixp rfl rfl hsl hk1 fun by' oy' ccy' hry' hcy' => ?_
      rw [hoe] at hcy'
      obtain ⟨z9, z10, z11, z12, rfl, _⟩ := hcy'
      have hry2 : HRow HK by' (oy' + 1 + 3) [I om.Txn.Node, I om.Txn.Life, I om.Txn.Count] := HRow.take (k := 3) (HRow.drop (k := 4) hry')
      refine walk ?_
      refine ops_ldNH rfl rfl hry2 rfl ?_
      refine walk ?_
      refine ex_if rfl (fun hq => ?_) (fun hq => ?_)
      · refine walk ?_
        exact out_next hL (k + 1, s2, HK) ⟨⟨by simp only; omega, by simp only; omega⟩, hlK, hI.more (by omega), hpk, hshk⟩
      have hnk : ¬ ((clipM om).Kind = 3 ∧ (clipM om).Txn = m.Txn) := fun h => hq h.2
      refine walk ?_
      refine ops_ixp rfl rfl hsl hk1 fun b2 o2 cc2 hr2 hc2 => ?_
      rw [hoe] at hc2
      obtain ⟨t1, t2, t3, t4, rfl, gok, g1, g2, g3, g4, g5, g6, g7, y1, y2, g8, g9, g10, g11, y3, g12, g13, g14, y4, gon⟩ := hc2
      dsimp only at gok g1 g2 g3 g4 g5 g6 g7 y1 y2 g8 g9 g10 g11 y3 g12 g13 g14 y4 gon
      have hml0 : rMessage HK [I om.From, I om.To, I om.Kind, I om.Txn.Node, I om.Txn.Life, I om.Txn.Count, I om.Work.Robot, t1, t2, .bool om.Yes, I om.ID, I om.Call.Verb, I om.Call.Epoch, I om.Call.Route.Start, t3, I om.Reply.Code, I om.Reply.Epoch, I om.Reply.Route.Start, t4] om := ⟨_, _, _, _, rfl, g1, g2, g3, g4, g5, g6, g7, y1, y2, g8, g9, g10, g11, y3, g12, g13, g14, y4⟩
      have hrm : HRow HK b2 (o2 + 1) [I om.From, I om.To, I om.Kind, I om.Txn.Node, I om.Txn.Life, I om.Txn.Count, I om.Work.Robot, t1, t2, .bool om.Yes, I om.ID, I om.Call.Verb, I om.Call.Epoch, I om.Call.Route.Start, t3, I om.Reply.Code, I om.Reply.Epoch, I om.Reply.Route.Start, t4] := HRow.take (k := 19) (HRow.drop (k := 1) hr2)
      refine walk ?_
      refine ops_ldNH rfl rfl hrm rfl ?_
      refine ops_call rfl rfl (pOwn_spec (m := om) hml0) fun r11 HA B hlA ⟨cs1, er, hcsA, eB⟩ => ?_
      subst er eB
      have hokA := clipM_ok hml0
      refine ops_L (L' := partO HA p s2 :: row p5 43 ((m1K sh m).cv (.slice db1 (clipM m).Work.Take.length dc1) (.slice db2 (clipM m).Work.Drop.length dc2) (.slice db3 (clipM m).Call.Route.Cells.length dc3) (.slice db4 (clipM m).Reply.Route.Cells.length dc4)) :: R) ?_ ?_
      · refine Sub.trans ?_ (part_up hlA)
        (repeat (first | exact Sub.refl _ | exact Sub.nil _ | (apply sub_pick; (repeat (first | exact Has.here | apply Has.there)); skip) | apply Sub.drop))
      refine ops_call rfl rfl (hear_spec (W0 := W0) (H := HA) (p := p) (n := 61 + k) (s := s2) (m := clipM om) (hP.mono (hl1.trans (hl2.trans (hl3.trans (hl4.trans (hl5.trans (hl6.trans (hl7.trans (hl8.trans (hlK.trans hlA)))))))))) hI (by omega) hokA hcsA) fun r12 HB B hlB ⟨v3, v4, cs2, er, eB⟩ => ?_
      subst er eB
      have hinv2 := hI.hear (cs := cs2) hokA
      obtain ⟨w, hw⟩ := isP_iff.1 hpk
      have hkeep : isP (hearS s2 (clipM om) cs2) m.Txn := isP_iff.2 ⟨w, hear_keeps hI hw hnk⟩
      have hsh2 : (hearS s2 (clipM om) cs2).sh = sh := hearS_sh.trans hshk
      generalize hearS s2 (clipM om) cs2 = s3 at hinv2 hkeep hsh2 ⊢
      refine ops_shape v3 fun a1 a2 e _ _ _ => ?_
      subst e
      refine ops_shape v4 fun a3 a4 e _ _ _ => ?_
      subst e
      have hh := phas_spec (W0 := W0) (H := HB) (p := p) (s := s3) (x := m.Txn) (hinv2.t.ok (by omega)) hinv2.t.wd
      rw [decide_eq_true hkeep] at hh
      refine walk ?_
      refine ops_call rfl rfl hh fun r13 HC B hlC ⟨er, eB⟩ => ?_
      subst er eB
      refine walk ?_
      exact out_next hL (k + 1, s3, HC) ⟨⟨by simp only; omega, by simp only; omega⟩, hlK.trans (hlA.trans (hlB.trans hlC)), hinv2, hkeep, hsh2⟩
    · refine walk ?_
      refine ops_ixp rfl rfl hsl hk1 fun b o cc hr hc => ?_
      rw [hoe] at hc
      obtain ⟨z1, z2, z3, z4, rfl, _⟩ := hc
      refine walk ?_
      refine ops_ixp rfl rfl hsl hk1 fun bx' ox' ccx' hrx' hcx' => ?_
      rw [hoe] at hcx'
      obtain ⟨z5, z6, z7, z8, rfl, _⟩ := hcx'
      have hrx2 : HRow HK bx' (ox' + 1) [I om.From, I om.To, I om.Kind, I om.Txn.Node, I om.Txn.Life, I om.Txn.Count, I om.Work.Robot, z5, z6, .bool om.Yes, I om.ID, I om.Call.Verb, I om.Call.Epoch, I om.Call.Route.Start, z7, I om.Reply.Code, I om.Reply.Epoch, I om.Reply.Route.Start, z8] := HRow.take (k := 19) (HRow.drop (k := 1) hrx')
      have hnk : ¬ ((clipM om).Kind = 3 ∧ (clipM om).Txn = m.Txn) := fun h => hx3 h.1
      refine walk ?_
      refine ops_ixp rfl rfl hsl hk1 fun b2 o2 cc2 hr2 hc2 => ?_
      rw [hoe] at hc2
      obtain ⟨t1, t2, t3, t4, rfl, gok, g1, g2, g3, g4, g5, g6, g7, y1, y2, g8, g9, g10, g11, y3, g12, g13, g14, y4, gon⟩ := hc2
      dsimp only at gok g1 g2 g3 g4 g5 g6 g7 y1 y2 g8 g9 g10 g11 y3 g12 g13 g14 y4 gon
      have hml0 : rMessage HK [I om.From, I om.To, I om.Kind, I om.Txn.Node, I om.Txn.Life, I om.Txn.Count, I om.Work.Robot, t1, t2, .bool om.Yes, I om.ID, I om.Call.Verb, I om.Call.Epoch, I om.Call.Route.Start, t3, I om.Reply.Code, I om.Reply.Epoch, I om.Reply.Route.Start, t4] om := ⟨_, _, _, _, rfl, g1, g2, g3, g4, g5, g6, g7, y1, y2, g8, g9, g10, g11, y3, g12, g13, g14, y4⟩
      have hrm : HRow HK b2 (o2 + 1) [I om.From, I om.To, I om.Kind, I om.Txn.Node, I om.Txn.Life, I om.Txn.Count, I om.Work.Robot, t1, t2, .bool om.Yes, I om.ID, I om.Call.Verb, I om.Call.Epoch, I om.Call.Route.Start, t3, I om.Reply.Code, I om.Reply.Epoch, I om.Reply.Route.Start, t4] := HRow.take (k := 19) (HRow.drop (k := 1) hr2)
      refine walk ?_
      refine ops_ldNH rfl rfl hrm rfl ?_
      refine ops_call rfl rfl (pOwn_spec (m := om) hml0) fun r11 HA B hlA ⟨cs1, er, hcsA, eB⟩ => ?_
      subst er eB
      have hokA := clipM_ok hml0
      refine ops_L (L' := partO HA p s2 :: row p5 43 ((m1K sh m).cv (.slice db1 (clipM m).Work.Take.length dc1) (.slice db2 (clipM m).Work.Drop.length dc2) (.slice db3 (clipM m).Call.Route.Cells.length dc3) (.slice db4 (clipM m).Reply.Route.Cells.length dc4)) :: R) ?_ ?_
      · refine Sub.trans ?_ (part_up hlA)
        (repeat (first | exact Sub.refl _ | exact Sub.nil _ | (apply sub_pick; (repeat (first | exact Has.here | apply Has.there)); skip) | apply Sub.drop))
      refine ops_call rfl rfl (hear_spec (W0 := W0) (H := HA) (p := p) (n := 61 + k) (s := s2) (m := clipM om) (hP.mono (hl1.trans (hl2.trans (hl3.trans (hl4.trans (hl5.trans (hl6.trans (hl7.trans (hl8.trans (hlK.trans hlA)))))))))) hI (by omega) hokA hcsA) fun r12 HB B hlB ⟨v3, v4, cs2, er, eB⟩ => ?_
      subst er eB
      have hinv2 := hI.hear (cs := cs2) hokA
      obtain ⟨w, hw⟩ := isP_iff.1 hpk
      have hkeep : isP (hearS s2 (clipM om) cs2) m.Txn := isP_iff.2 ⟨w, hear_keeps hI hw hnk⟩
      have hsh2 : (hearS s2 (clipM om) cs2).sh = sh := hearS_sh.trans hshk
      generalize hearS s2 (clipM om) cs2 = s3 at hinv2 hkeep hsh2 ⊢
      refine ops_shape v3 fun a1 a2 e _ _ _ => ?_
      subst e
      refine ops_shape v4 fun a3 a4 e _ _ _ => ?_
      subst e
      have hh := phas_spec (W0 := W0) (H := HB) (p := p) (s := s3) (x := m.Txn) (hinv2.t.ok (by omega)) hinv2.t.wd
      rw [decide_eq_true hkeep] at hh
      refine walk ?_
      refine ops_call rfl rfl hh fun r13 HC B hlC ⟨er, eB⟩ => ?_
      subst er eB
      refine walk ?_
      exact out_next hL (k + 1, s3, HC) ⟨⟨by simp only; omega, by simp only; omega⟩, hlK.trans (hlA.trans (hlB.trans hlC)), hinv2, hkeep, hsh2⟩
  clear hL
  have hcs20 : rMessage H3 ((m2K sh m).cv (.slice db1 (clipM m).Work.Take.length dc1) (.slice db2 (clipM m).Work.Drop.length dc2) (.slice db3 (clipM m).Call.Route.Cells.length dc3) (.slice db4 (clipM m).Reply.Route.Cells.length dc4)) (m2K sh m) := ⟨_, _, _, _, rfl, k4, hsh, fk3, k4, k5, k6, k7, j1, j2, k8, k9, k10, k11, j3, k12, k13, k14, j4⟩
  have hcl2 := pOwn_spec (W0 := W0) (H := HK) (m := m2K sh m) (c := ((m2K sh m).cv (.slice db1 (clipM m).Work.Take.length dc1) (.slice db2 (clipM m).Work.Drop.length dc2) (.slice db3 (clipM m).Call.Route.Cells.length dc3) (.slice db4 (clipM m).Reply.Route.Cells.length dc4))) (RdOk.mono (R := rMessage) (hl4.trans (hl5.trans (hl6.trans (hl7.trans (hl8.trans hlK))))) hcs20)
  rw [clip_m2] at hcl2
  have hok2 : OkM (m2K sh m) := ⟨(clipM_ok hm0).w, (clipM_ok hm0).x⟩
  refine walk ?_
  refine ops_call rfl rfl hcl2 fun r11 HA B hlA ⟨csA, er, hcsA, eB⟩ => ?_
  subst er eB
  refine ops_L (L' := partO HA p s2 :: row p5 43 ((m2K sh m).cv (.slice db1 (clipM m).Work.Take.length dc1) (.slice db2 (clipM m).Work.Drop.length dc2) (.slice db3 (clipM m).Call.Route.Cells.length dc3) (.slice db4 (clipM m).Reply.Route.Cells.length dc4)) :: R) ?_ ?_
  · refine Sub.trans ?_ (part_up hlA)
    (repeat (first | exact Sub.refl _ | exact Sub.nil _ | (apply sub_pick; (repeat (first | exact Has.here | apply Has.there)); skip) | apply Sub.drop))
  have hfm2 : forMe s2 (m2K sh m) := ⟨hshk.symm, rfl⟩
  refine walk ?_
  refine ops_call rfl rfl (hear_spec (W0 := W0) (H := HA) (p := p) (n := 61 + k) (s := s2) (m := m2K sh m) (hP.mono (hl1.trans (hl2.trans (hl3.trans (hl4.trans (hl5.trans (hl6.trans (hl7.trans (hl8.trans (hlK.trans hlA)))))))))) hI (by omega) hok2 hcsA) fun r12 HB B hlB ⟨v3, v4, csB, er, eB⟩ => ?_
  subst er eB
  obtain ⟨ho, hr, hnp⟩ := hear_dec (cs := csB) hI hfm2 rfl hpk
  have hinv3 := hI.hear (cs := csB) hok2
  generalize hearS s2 (m2K sh m) csB = s4 at hinv3 hnp ⊢
  rw [ho, hr]
  refine ops_freeze v3 fun HC hlC hsmB => ?_
  refine ops_freeze v4 fun HD hlD hsrB => ?_
  have hsmB := hsmB.mono hlD
  obtain ⟨be, ce, ea, _, _⟩ := hsmB.1.shape
  rw [show [ackM s2 (m2K sh m)].length = 1 from rfl] at ea
  subst ea
  obtain ⟨bf, cf, eb, _, _⟩ := hsrB.1.shape
  rw [show [recA (m2K sh m)].length = 1 from rfl] at eb
  subst eb
  refine ops_L (L' := partO HD p s4 :: row p5 43 ((m2K sh m).cv (.slice db1 (clipM m).Work.Take.length dc1) (.slice db2 (clipM m).Work.Drop.length dc2) (.slice db3 (clipM m).Call.Route.Cells.length dc3) (.slice db4 (clipM m).Reply.Route.Cells.length dc4)) :: R) ?_ ?_
  · refine Sub.trans ?_ (part_up (hlC.trans hlD))
    (repeat (first | exact Sub.refl _ | exact Sub.nil _ | (apply sub_pick; (repeat (first | exact Has.here | apply Has.there)); skip) | apply Sub.drop))
  refine walk ?_
  refine ops_ixp rfl rfl hsmB.1 (show 0 < [ackM s2 (m2K sh m)].length by simp) fun b o cc hr hc => ?_
  obtain ⟨w1, w2, w3, w4, rfl, _⟩ := hc
  change HRow HD b o [I s2.sh, I m.Txn.Node, I 4, I m.Txn.Node, I m.Txn.Life, I m.Txn.Count, I 0, w1, w2, .bool false, I 0, I 0, I 0, I 0, w3, I 0, I 0, I 0, w4] at hr
  refine walk ?_
  refine ops_ixp rfl rfl hsrB.1 (show 0 < [recA (m2K sh m)].length by simp) fun bx ox ccx hrx hcx => ?_
  obtain ⟨y1, y2, y3, rfl, _⟩ := hcx
  change HRow HD bx ox [I 3, I m.Txn.Node, I m.Txn.Life, I m.Txn.Count, I 0, y1, y2, .bool true, y3] at hrx
  have hh := phas_spec (W0 := W0) (H := HD) (p := p) (s := s4) (x := m.Txn) (hinv3.t.ok (by omega)) hinv3.t.wd
  rw [decide_eq_false (p := isP s4 m.Txn) hnp] at hh
  refine walk ?_
  refine ops_call rfl rfl hh fun r13 HE B hlE ⟨er, eB⟩ => ?_
  subst er eB
  refine walk ?_
  refine fin0 ?_
  exact ⟨rfl, rfl⟩
end Go.Proofs.YtjgjcakeimkkdaaGreatDoor
