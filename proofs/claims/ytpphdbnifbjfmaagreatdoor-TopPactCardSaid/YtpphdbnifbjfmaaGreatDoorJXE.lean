/- Messages are sent; one is heard at its node. -/
import Derived.Test.YtpphdbnifbjfmaaGreatDoorJE48
import Derived.Test.YtpphdbnifbjfmaaGreatDoorJXD
set_option linter.unusedVariables false
set_option linter.unusedSimpArgs false
namespace Go.Proofs.YtpphdbnifbjfmaaGreatDoor
open Go Go.Sx Go.Proofs
theorem send1_spec {W0 : World} {H H0 : Heap} {b : Nat} {c : List Value} {l : List Message} {m : Message} (hl : H0.le H) (h0 : rMessage H c m) :
    Ct Tryz.prog 33 #[ptrC b, .agg c.toArray] W0 H [Net.netO H0 (ptrC b) l] (fun r H' B => B = [Net.netO H' (ptrC b) (send1 l m)]) := by
  unfold send1
  by_cases h : l.length < 64
  · rw [if_pos h]
    exact (Net.send_yes (W0 := W0) (ms := l) hl h0 h).mono fun r H' B _ hq => hq.2
  · rw [if_neg h]
    exact (Net.send_no (W0 := W0) (ms := l) hl h0 h).mono fun r H' B _ hq => by rw [hq.2.1, hq.2.2]
set_option maxHeartbeats 4000000 in
theorem send_spec {W0 : World} {H H0 : Heap} {p nb : Nat} {nv lv v : Value} {now : Int} {l ms : List Message} (hl : H0.le H) (hs : SlR rMessage 19 H v ms) :
    Ct Tryz.prog 16 #[ptrC p, v] W0 H [wRow p nv nb now lv, Net.netO H0 (ptrC nb) l] (fun r H' B => B = [wRow p nv nb now lv, Net.netO H' (ptrC nb) (sendL l ms)]) := by
  refine Ct.go (vs := [ptrC p, v]) fun R => ?_
  obtain ⟨b0, c0, rfl, _, _⟩ := hs.shape
  refine walk ?_
  refine ex_loop (σ := Nat × Heap) (fun u => u.1 ≤ ms.length ∧ H.le u.2) (fun u => [(0, ptrC p), (6, .slice b0 ms.length c0), (7, I ms.length), (8, I u.1)]) (fun u => u.2) (fun u => wRow p nv nb now lv :: Net.netO u.2 (ptrC nb) (sendL l (ms.take u.1)) :: R) (fun u => ms.length - u.1) (0, H) ⟨Nat.zero_le _, .refl _⟩ (hs0 := ?_) fun ⟨k, HK⟩ ⟨hk0, hlK⟩ K hL => ?_
  rotate_left
  · refine Sub.trans (B := Net.netO H0 (ptrC nb) l :: wRow p nv nb now lv :: R) subA ?_
    refine Sub.trans (Net.netO_up hl) ?_
    exact subA
  simp only at hk0 hlK
  dsimp only
  refine walk ?_
  refine ex_if rfl (fun hk => ?_) (fun hk => ?_)
  · have hk1 : k < ms.length := by omega
    have ht : sendL l (ms.take (k + 1)) = send1 (sendL l (ms.take k)) ms[k] := by rw [List.take_succ_eq_append_getElem hk1]; unfold sendL; rw [List.foldl_append]; rfl
    refine walk ?_
    refine ops_ixp rfl rfl (hs.mono hlK) hk1 fun b o c hr hc => ?_
    generalize ms[k] = m at hc ht
    have hcc := hc
    obtain ⟨s1, s2, s3, s4, rfl, _, _, _, _, _, _, _, h1, h2, _, _, _, _, h3, _, _, _, h4⟩ := hc
    obtain ⟨b1, c1, rfl, _, _⟩ := h1.1.shape
    obtain ⟨b2, c2, rfl, _, _⟩ := h2.1.shape
    obtain ⟨b3, c3, rfl, _, _⟩ := h3.1.shape
    obtain ⟨b4, c4, rfl, _, _⟩ := h4.1.shape
    refine ops_ldNH rfl rfl hr rfl ?_
    refine ops_alloc rfl fun p5 _ => ?_
    refine walk ?_
    refine ex_any 5 [row p5 81 (m.cv (.slice b1 m.Work.Take.length c1) (.slice b2 m.Work.Drop.length c2) (.slice b3 m.Call.Route.Cells.length c3) (.slice b4 m.Reply.Route.Cells.length c4)), wRow p nv nb now lv] ?_
    refine stepY 0 ?_; refine stepY 1 ?_; refine stepY 2 ?_; refine stepY 3 ?_; refine stepY 4 ?_
    refine any_rest rfl ?_
    refine ops_call rfl rfl (send1_spec (W0 := W0) (H := HK) (H0 := HK) (b := nb) (l := sendL l (ms.take k)) (.refl _) hcc) fun r1 H1 B hl1 eB => ?_
    subst eB
    rw [← ht]
    refine walk ?_
    exact out_next hL (k + 1, H1) ⟨by simp only; omega, hlK.trans hl1⟩
  · clear hL
    obtain rfl : k = ms.length := by omega
    rw [List.take_length]
    refine walk ?_
    refine endnB [wRow p nv nb now lv, Net.netO HK (ptrC nb) (sendL l ms)] ?_
    exact rfl
def HMid (q : PN) (m : Message) (q' : PN) (out : List Message) (rc : List Rec) : Prop :=
  (toPart m ∧ ∃ cs, q' = ⟨hearS q.ps m cs, q.cs⟩ ∧ out = hearOut q.ps m ∧ rc = hearRec q.ps m) ∨ (¬ toPart m ∧ q' = ⟨q.ps, (cHear q.cs m).s⟩ ∧ out = (cHear q.cs m).out ∧ rc = (cHear q.cs m).rc)
theorem cHear_life {s : CS} {m : Message} : (cHear s m).s.life = s.life := by
  unfold cHear
  repeat' split
  all_goals rfl
theorem HMid.life {q q' : PN} {m : Message} {out : List Message} {rc : List Rec} (h : HMid q m q' out rc) : q'.cs.life = q.cs.life := by
  rcases h with ⟨_, cs, rfl, _⟩ | ⟨_, rfl, _⟩
  · rfl
  · exact cHear_life
theorem HMid.rcl {q q' : PN} {m : Message} {out : List Message} {rc : List Rec} (h : HMid q m q' out rc) : rc.length ≤ 1 := by
  rcases h with ⟨_, cs, _, _, rfl⟩ | ⟨_, _, _, rfl⟩
  · unfold hearRec
    repeat' split
    all_goals simp
  · unfold cHear
    repeat' split
    all_goals simp
def NE.to (e : NE) (q : PN) : NE := ⟨e.pp, e.cp, q⟩
theorem rl_set {es : List NE} {i : Nat} (hi : i < es.length) {q : PN} (hq : q.cs.life = es[i].q.cs.life) {cs : List Value} (h : RL rNE Heap.empty cs es) : RL rNE Heap.empty cs (es.set i (es[i].to q)) := by
  have key : ∀ (es : List NE) (i : Nat) (hi : i < es.length) (cs : List Value), q.cs.life = es[i].q.cs.life → RL rNE Heap.empty cs es → RL rNE Heap.empty cs (es.set i (es[i].to q)) := by
    intro es
    induction es with
    | nil => intro i hi; cases hi
    | cons e es ih =>
      intro i hi cs hq ⟨c, r, e1, h1, h2⟩
      cases i with
      | zero =>
        refine ⟨c, r, e1, ?_, h2⟩
        show c = [ptrC e.pp, ptrC e.cp, I q.cs.life]
        rw [show q.cs.life = e.q.cs.life from hq]; exact h1
      | succ i => exact ⟨c, r, e1, h1, ih i (by simpa using hi) r hq h2⟩
  exact key es i hi cs hq h
theorem ns_set {es : List NE} {i : Nat} (hi : i < es.length) {q : PN} (hq : q.cs.life = es[i].q.cs.life) {nv : Value} {L : List HProp} : Sub (wNs nv es :: L) (wNs nv (es.set i (es[i].to q)) :: L) := fun h ⟨h1, h2, ⟨cs, ⟨u, v⟩, w⟩, r⟩ => by
  refine ⟨h1, h2, ⟨cs, ⟨rl_set hi hq u, by rw [List.length_set]; exact v⟩, ?_⟩, r⟩
  rw [List.length_set]; exact w
structure WOk (n : Nat) (w : PW) : Prop where
  p : ∀ q ∈ w.ns, PInv n q.ps
  c : ∀ q ∈ w.ns, CInv n q.cs
  pl : ∀ q ∈ w.ns, ∀ k t, mget k q.cs.ts = some t → t.parts.length ≤ 1000
  n : n ≤ 500
  ll : w.log.length ≤ 900000000
  fn : ∀ q ∈ w.ns, fits (q.cs.life + 1)
  sh : ∀ i (h : i < w.ns.length), w.ns[i].ps.sh = i ∧ w.ns[i].cs.node = i
theorem es_take {es : List NE} {i : Nat} {e : NE} (hi : i < es.length) {A : NE → HProp} {L : List HProp} : Sub (A e :: bigL A (es.take i ++ es.drop (i + 1)) :: L) (bigL A (es.set i e) :: L) := bigL_set hi
theorem es_same {es : List NE} {i : Nat} (hi : i < es.length) {A : NE → HProp} {e : NE} (h : ∀ x, A es[i] x → A e x) {L : List HProp} : Sub (bigL A es :: L) (bigL A (es.set i e) :: L) :=
  (bigL_get hi).trans ((show Sub (A es[i] :: bigL A (es.take i ++ es.drop (i + 1)) :: L) (A e :: bigL A (es.take i ++ es.drop (i + 1)) :: L) from fun x ⟨h1, h2, a, r⟩ => ⟨h1, h2, h _ a, r⟩).trans (bigL_set hi))
def HearQ (H' : Heap) (p nb : Nat) (nv : Value) (w : PW) (m : Message) (es : List NE) (v : Value) (B : List HProp) : Prop :=
  ∃ w' out es' lv, PHear w m w' out ∧ w'.ns = es'.map NE.q ∧ B = [ownS rMessage 19 216 81 H' v out, wRow p nv nb w'.now lv, wNs nv es', bigL (ndP H') es', bigL (ndC H') es', wLog H' lv w'.log]
set_option maxHeartbeats 16000000 in
set_option maxRecDepth 20000 in
theorem hearW_spec {W0 : World} {H : Heap} {p nb n : Nat} {nv lv : Value} {w : PW} {m : Message} {c : List Value} {es : List NE} (hP : PkH H) (hns : w.ns = es.map NE.q) (KW : WOk n w) (hm : OkM m) (hc : rMessage H c m) (ht : isNode w m.To) :
    Ct Tryz.prog 18 #[ptrC p, .agg c.toArray] W0 H [wRow p nv nb w.now lv, wNs nv es, bigL (ndP H) es, bigL (ndC H) es, wLog H lv w.log] (fun r H' B => HearQ H' p nb nv w m es r B) := by
  refine Ct.go (vs := [ptrC p, .agg c.toArray]) fun R => ?_
  have hcc := hc
  obtain ⟨s1, s2, s3, s4, rfl, f1, f2, f3, f4, f5, f6, f7, h1, h2, f8, f9, f10, f11, h3, f12, f13, f14, h4⟩ := hc
  obtain ⟨b1, c1, rfl, _, _⟩ := h1.1.shape
  obtain ⟨b2, c2, rfl, _, _⟩ := h2.1.shape
  obtain ⟨b3, c3, rfl, _, _⟩ := h3.1.shape
  obtain ⟨b4, c4, rfl, _, _⟩ := h4.1.shape
  obtain ⟨i, hi⟩ : ∃ i : Nat, m.To = i := ⟨m.To.toNat, by unfold isNode at ht; omega⟩
  have hil : i < es.length := by
    unfold isNode at ht
    rw [hns, List.length_map] at ht
    omega
  have hwl : i < w.ns.length := by rw [hns, List.length_map]; exact hil
  have hwi : w.ns[i] = es[i].q := by simp only [hns, List.getElem_map]
  have hmem := es_mem hns hil
  refine ex_shape nv fun base cap e _ _ _ => ?_
  subst e
  refine walk ?_
  refine ops_box rfl rfl fun p3 _ => ?_
  refine walk ?_
  refine ex_lendS (.slice base es.length cap) fun D hD hdj hle hsl => ?_
  haveI hin : NatOf m.To i := ⟨hi⟩
  refine ex_any 10 [row p3 81 (m.cv (.slice b1 m.Work.Take.length c1) (.slice b2 m.Work.Drop.length c2) (.slice b3 m.Call.Route.Cells.length c3) (.slice b4 m.Reply.Route.Cells.length c4)), wRow p (.slice base es.length cap) nb w.now lv] ?_
  refine stepY 0 ?_; refine stepY 1 ?_; refine stepY 2 ?_; refine stepY 3 ?_; refine stepY 4 ?_; refine stepY 5 ?_
  refine gny_ixp 6 rfl rfl rfl hsl.1 hil fun b o cc hr hcn => ?_
  obtain rfl : cc = es[i].cv := hcn
  refine gny_ldNH 7 rfl rfl rfl hr rfl ?_
  refine gny_alloc 8 rfl rfl fun p7 _ => ?_
  refine any_sta 9 rfl rfl rfl rfl (by simp) rfl ⟨subA, ?_⟩
  refine any_rest rfl ?_
  refine ops_back hD hdj (.refl _) ?_
  have K2 : PInv n es[i].q.ps ∧ CInv n es[i].q.cs := ⟨KW.p _ hmem, KW.c _ hmem⟩
  have hpl := KW.pl _ hmem
  refine ops_cut1 (σ := PN × List Message × List Rec × Value × Value × Heap) (fun u => HMid es[i].q m u.1 u.2.1 u.2.2.1 ∧ H.le u.2.2.2.2.2) (fun u => [(0, ptrC p), (3, .pointer (some ⟨p3, 0, none⟩)), (5, u.2.2.2.1), (6, u.2.2.2.2.1)]) (fun u => u.2.2.2.2.2)
    (fun u => ownS rMessage 19 216 81 u.2.2.2.2.2 u.2.2.2.1 u.2.1 :: ownS rRec 9 120 48 u.2.2.2.2.2 u.2.2.2.2.1 u.2.2.1 :: row p3 81 (m.cv (.slice b1 m.Work.Take.length c1) (.slice b2 m.Work.Drop.length c2) (.slice b3 m.Call.Route.Cells.length c3) (.slice b4 m.Reply.Route.Cells.length c4)) :: wRow p (.slice base es.length cap) nb w.now lv :: wNs (.slice base es.length cap) (es.set i (es[i].to u.1)) :: bigL (ndP u.2.2.2.2.2) (es.set i (es[i].to u.1)) :: bigL (ndC u.2.2.2.2.2) (es.set i (es[i].to u.1)) :: wLog u.2.2.2.2.2 lv w.log :: R) (fun K hK => ?_) fun ⟨q', out, rc, v1, v2, H'⟩ ⟨hM, hlH⟩ => ?_
  · by_cases k : toPart m
    · have hcall := hear_spec (W0 := W0) (H := H) (p := es[i].pp) (n := n) (s := es[i].q.ps) hP K2.1 KW.n hm hcc
      refine ops_L (L' := ndP H es[i] :: bigL (ndP H) (es.take i ++ es.drop (i + 1)) :: wNs (.slice base es.length cap) es :: row p7 66 es[i].cv :: row p3 81 (m.cv (.slice b1 m.Work.Take.length c1) (.slice b2 m.Work.Drop.length c2) (.slice b3 m.Call.Route.Cells.length c3) (.slice b4 m.Reply.Route.Cells.length c4)) :: wRow p (.slice base es.length cap) nb w.now lv :: bigL (ndC H) es :: wLog H lv w.log :: R) ?_ ?_
      · refine Sub.trans (B := bigL (ndP H) es :: wNs (.slice base es.length cap) es :: row p7 66 es[i].cv :: row p3 81 (m.cv (.slice b1 m.Work.Take.length c1) (.slice b2 m.Work.Drop.length c2) (.slice b3 m.Call.Route.Cells.length c3) (.slice b4 m.Reply.Route.Cells.length c4)) :: wRow p (.slice base es.length cap) nb w.now lv :: bigL (ndC H) es :: wLog H lv w.log :: R) subA (bigL_get hil)
      rcases id k with k1 | k3
      · refine walk ?_
        refine ops_call (A := [ndP H es[i]]) rfl rfl hcall fun r1 H1 B hl1 ⟨v1, v2, cs, er, eB⟩ => ?_
        subst er eB
        refine walk ?_
        refine out_to hK (⟨hearS es[i].q.ps m cs, es[i].q.cs⟩, hearOut es[i].q.ps m, hearRec es[i].q.ps m, v1, v2, H1) ⟨.inl ⟨k, cs, rfl, rfl, rfl⟩, hl1⟩ (hs := ?_)
        dsimp only
        refine Sub.trans (B := ndP H1 (es[i].to ⟨hearS es[i].q.ps m cs, es[i].q.cs⟩) :: bigL (ndP H) (es.take i ++ es.drop (i + 1)) :: bigL (ndC H) es :: wNs (.slice base es.length cap) es :: wLog H lv w.log :: ownS rMessage 19 216 81 H1 v1 (hearOut es[i].q.ps m) :: ownS rRec 9 120 48 H1 v2 (hearRec es[i].q.ps m) :: row p3 81 (m.cv (.slice b1 m.Work.Take.length c1) (.slice b2 m.Work.Drop.length c2) (.slice b3 m.Call.Route.Cells.length c3) (.slice b4 m.Reply.Route.Cells.length c4)) :: wRow p (.slice base es.length cap) nb w.now lv :: R) subA ?_
        refine Sub.trans (Sub.cons (ndP_up hl1)) ?_
        refine Sub.trans (es_take (A := ndP H1) hil) ?_
        refine Sub.trans (Sub.cons (ndC_up hl1)) ?_
        refine Sub.trans (Sub.cons (es_same (A := ndC H1) hil (e := es[i].to ⟨hearS es[i].q.ps m cs, es[i].q.cs⟩) fun _ h => h)) ?_
        refine Sub.trans (Sub.cons (Sub.cons (ns_set hil (q := ⟨hearS es[i].q.ps m cs, es[i].q.cs⟩) rfl))) ?_
        refine Sub.trans (Sub.cons (Sub.cons (Sub.cons (log_up hl1)))) ?_
        exact subA
      · have k1 : ¬ m.Kind = 1 := by omega
        refine walk ?_
        refine ops_call (A := [ndP H es[i]]) rfl rfl hcall fun r1 H1 B hl1 ⟨v1, v2, cs, er, eB⟩ => ?_
        subst er eB
        refine walk ?_
        refine out_to hK (⟨hearS es[i].q.ps m cs, es[i].q.cs⟩, hearOut es[i].q.ps m, hearRec es[i].q.ps m, v1, v2, H1) ⟨.inl ⟨k, cs, rfl, rfl, rfl⟩, hl1⟩ (hs := ?_)
        dsimp only
        refine Sub.trans (B := ndP H1 (es[i].to ⟨hearS es[i].q.ps m cs, es[i].q.cs⟩) :: bigL (ndP H) (es.take i ++ es.drop (i + 1)) :: bigL (ndC H) es :: wNs (.slice base es.length cap) es :: wLog H lv w.log :: ownS rMessage 19 216 81 H1 v1 (hearOut es[i].q.ps m) :: ownS rRec 9 120 48 H1 v2 (hearRec es[i].q.ps m) :: row p3 81 (m.cv (.slice b1 m.Work.Take.length c1) (.slice b2 m.Work.Drop.length c2) (.slice b3 m.Call.Route.Cells.length c3) (.slice b4 m.Reply.Route.Cells.length c4)) :: wRow p (.slice base es.length cap) nb w.now lv :: R) subA ?_
        refine Sub.trans (Sub.cons (ndP_up hl1)) ?_
        refine Sub.trans (es_take (A := ndP H1) hil) ?_
        refine Sub.trans (Sub.cons (ndC_up hl1)) ?_
        refine Sub.trans (Sub.cons (es_same (A := ndC H1) hil (e := es[i].to ⟨hearS es[i].q.ps m cs, es[i].q.cs⟩) fun _ h => h)) ?_
        refine Sub.trans (Sub.cons (Sub.cons (ns_set hil (q := ⟨hearS es[i].q.ps m cs, es[i].q.cs⟩) rfl))) ?_
        refine Sub.trans (Sub.cons (Sub.cons (Sub.cons (log_up hl1)))) ?_
        exact subA
    · have k1 : ¬ m.Kind = 1 := fun h => k (.inl h)
      have k3 : ¬ m.Kind = 3 := fun h => k (.inr h)
      have hcall := chear_spec (W0 := W0) (H := H) (p := es[i].cp) (n := n) (s := es[i].q.cs) (m := m) K2.2 (by have := KW.n; omega) (fun k t h => Nat.le_trans (hpl k t h) (by omega)) hcc
      refine ops_L (L' := ndC H es[i] :: bigL (ndC H) (es.take i ++ es.drop (i + 1)) :: wNs (.slice base es.length cap) es :: row p7 66 es[i].cv :: row p3 81 (m.cv (.slice b1 m.Work.Take.length c1) (.slice b2 m.Work.Drop.length c2) (.slice b3 m.Call.Route.Cells.length c3) (.slice b4 m.Reply.Route.Cells.length c4)) :: wRow p (.slice base es.length cap) nb w.now lv :: bigL (ndP H) es :: wLog H lv w.log :: R) ?_ ?_
      · refine Sub.trans (B := bigL (ndC H) es :: wNs (.slice base es.length cap) es :: row p7 66 es[i].cv :: row p3 81 (m.cv (.slice b1 m.Work.Take.length c1) (.slice b2 m.Work.Drop.length c2) (.slice b3 m.Call.Route.Cells.length c3) (.slice b4 m.Reply.Route.Cells.length c4)) :: wRow p (.slice base es.length cap) nb w.now lv :: bigL (ndP H) es :: wLog H lv w.log :: R) subA (bigL_get hil)
      refine walk ?_
      refine ops_call (A := [ndC H es[i]]) rfl rfl hcall fun r1 H1 B hl1 ⟨v1, v2, v3, er, eB⟩ => ?_
      subst er eB
      refine walk ?_
      refine out_to hK (⟨es[i].q.ps, (cHear es[i].q.cs m).s⟩, (cHear es[i].q.cs m).out, (cHear es[i].q.cs m).rc, v1, v2, H1) ⟨.inr ⟨k, rfl, rfl, rfl⟩, hl1⟩ (hs := ?_)
      dsimp only
      refine Sub.trans (B := ndC H1 (es[i].to ⟨es[i].q.ps, (cHear es[i].q.cs m).s⟩) :: bigL (ndC H) (es.take i ++ es.drop (i + 1)) :: bigL (ndP H) es :: wNs (.slice base es.length cap) es :: wLog H lv w.log :: ownS rMessage 19 216 81 H1 v1 (cHear es[i].q.cs m).out :: ownS rRec 9 120 48 H1 v2 (cHear es[i].q.cs m).rc :: row p3 81 (m.cv (.slice b1 m.Work.Take.length c1) (.slice b2 m.Work.Drop.length c2) (.slice b3 m.Call.Route.Cells.length c3) (.slice b4 m.Reply.Route.Cells.length c4)) :: wRow p (.slice base es.length cap) nb w.now lv :: R) subA ?_
      refine Sub.trans (Sub.cons (ndC_up hl1)) ?_
      refine Sub.trans (es_take (A := ndC H1) hil) ?_
      refine Sub.trans (Sub.cons (ndP_up hl1)) ?_
      refine Sub.trans (Sub.cons (es_same (A := ndP H1) hil (e := es[i].to ⟨es[i].q.ps, (cHear es[i].q.cs m).s⟩) fun _ h => h)) ?_
      refine Sub.trans (Sub.cons (Sub.cons (ns_set hil (q := ⟨es[i].q.ps, (cHear es[i].q.cs m).s⟩) cHear_life))) ?_
      refine Sub.trans (Sub.cons (Sub.cons (Sub.cons (log_up hl1)))) ?_
      exact subA
  simp only at hM hlH
  dsimp only
  refine ex_freeze v2 fun H2 hl2 hrc => ?_
  refine ex_shape lv fun lb lc e _ _ _ => ?_
  subst e
  obtain ⟨br, cr, rfl, _, _⟩ := hrc.1.shape
  refine walk ?_
  refine ex_loop (σ := Nat × Option Addr × Nat) (fun u => u.1 ≤ rc.length) (fun u => [(0, ptrC p), (3, .pointer (some ⟨p3, 0, none⟩)), (5, v1), (38, .slice br rc.length cr), (39, I rc.length), (40, I u.1)]) (fun _ => H2)
    (fun u => wRow p (.slice base es.length cap) nb w.now (.slice u.2.1 (w.log ++ noteL m.To (rc.take u.1)).length u.2.2) :: wLog H2 (.slice u.2.1 (w.log ++ noteL m.To (rc.take u.1)).length u.2.2) (w.log ++ noteL m.To (rc.take u.1)) :: ownS rMessage 19 216 81 H' v1 out :: row p3 81 (m.cv (.slice b1 m.Work.Take.length c1) (.slice b2 m.Work.Drop.length c2) (.slice b3 m.Call.Route.Cells.length c3) (.slice b4 m.Reply.Route.Cells.length c4)) :: wNs (.slice base es.length cap) (es.set i (es[i].to q')) :: bigL (ndP H') (es.set i (es[i].to q')) :: bigL (ndC H') (es.set i (es[i].to q')) :: R) (fun u => rc.length - u.1) (0, lb, lc) (Nat.zero_le _) (hs0 := ?hs0) fun ⟨j, d, e⟩ hj0 K hL => ?_
  case hs0 =>
    simp only [List.take_zero]
    show Sub _ (wRow p (.slice base es.length cap) nb w.now (.slice lb (w.log ++ []).length lc) :: wLog H2 (.slice lb (w.log ++ []).length lc) (w.log ++ []) :: _)
    rw [List.append_nil]
    refine Sub.trans (B := wLog H' (.slice lb w.log.length lc) w.log :: ownS rMessage 19 216 81 H' v1 out :: row p3 81 (m.cv (.slice b1 m.Work.Take.length c1) (.slice b2 m.Work.Drop.length c2) (.slice b3 m.Call.Route.Cells.length c3) (.slice b4 m.Reply.Route.Cells.length c4)) :: wRow p (.slice base es.length cap) nb w.now (.slice lb w.log.length lc) :: wNs (.slice base es.length cap) (es.set i (es[i].to q')) :: bigL (ndP H') (es.set i (es[i].to q')) :: bigL (ndC H') (es.set i (es[i].to q')) :: R) subA ?_
    refine Sub.trans (log_up hl2) ?_
    exact subA
  simp only at hj0
  dsimp only
  refine walk ?_
  refine ex_if rfl (fun hj => ?_) (fun hj => ?_)
  · have hj1 : j < rc.length := by omega
    have hjn : noteL m.To (rc.take j) ++ [⟨m.To, rc[j]⟩] = noteL m.To (rc.take (j + 1)) := by rw [List.take_succ_eq_append_getElem hj1]; unfold noteL; rw [List.map_append]; rfl
    have hnl : (noteL m.To (rc.take j)).length = j := by unfold noteL; rw [List.length_map, List.length_take]; omega
    refine walk ?_
    refine ops_ixp rfl rfl hrc.1 hj1 fun b o cc hr hcr => ?_
    have hcq := hcr
    generalize rc[j] = q at hr hcr hcq hjn
    obtain ⟨t1, t2, t3, rfl, g1, g2, g3, g4, g5, g6, g7, g8⟩ := hcr
    obtain ⟨sb1, sc1, rfl, _, _⟩ := g6.1.shape
    obtain ⟨sb2, sc2, rfl, _, _⟩ := g7.1.shape
    obtain ⟨sb3, sc3, rfl, _, _⟩ := g8.1.shape
    refine ops_ldNH rfl rfl hr rfl ?_
    refine ops_alloc rfl fun p9 _ => ?_
    refine walk ?_
    refine ex_any 11 [row p9 48 (q.cv (.slice sb1 q.Work.Take.length sc1) (.slice sb2 q.Work.Drop.length sc2) (.slice sb3 q.Parts.length sc3)), row p3 81 (m.cv (.slice b1 m.Work.Take.length c1) (.slice b2 m.Work.Drop.length c2) (.slice b3 m.Call.Route.Cells.length c3) (.slice b4 m.Reply.Route.Cells.length c4)), wRow p (.slice base es.length cap) nb w.now (.slice d (w.log ++ noteL m.To (rc.take j)).length e)] ?_
    refine stepY 0 ?_; refine stepY 1 ?_; refine stepY 2 ?_; refine stepY 3 ?_; refine stepY 4 ?_; refine stepY 5 ?_; refine stepY 6 ?_; refine stepY 7 ?_; refine stepY 8 ?_
    have hlen2 : (w.log ++ noteL m.To (rc.take j)).length + 1 = (w.log ++ noteL m.To (rc.take (j + 1))).length := by rw [← hjn]; simp; omega
    refine any_app1 (y := (⟨m.To, q⟩ : PactNote)) 9 10 rfl rfl rfl ⟨_, _, _, rfl, f2, g1, g2, g3, g4, g5, g6, g7, g8⟩ ?_ fun d3 e3 => ⟨subA, ?_⟩
    · have := KW.ll
      rw [List.length_append, hnl]
      simp only [cap47]
      have := hM.rcl
      omega
    rw [hlen2, List.append_assoc, hjn]
    refine any_rest rfl ?_
    refine walk ?_
    exact out_next hL (j + 1, d3, e3) (by simp only; omega)
  · clear hL
    obtain rfl : j = rc.length := by omega
    rw [List.take_length]
    refine walk ?_
    have hns2 : (setN w i q').ns = (es.set i (es[i].to q')).map NE.q := by
      show w.ns.set i q' = _
      rw [hns, List.map_set]; rfl
    refine finB [ownS rMessage 19 216 81 H2 v1 out, wRow p (.slice base es.length cap) nb w.now (.slice d (w.log ++ noteL m.To rc).length e), wNs (.slice base es.length cap) (es.set i (es[i].to q')), bigL (ndP H2) (es.set i (es[i].to q')), bigL (ndC H2) (es.set i (es[i].to q')), wLog H2 (.slice d (w.log ++ noteL m.To rc).length e) (w.log ++ noteL m.To rc)] ?_ (hs := ?_)
    · have hq : PHear w m { setN w i q' with log := w.log ++ noteL m.To rc } out := by
        rcases hM with ⟨k, cs, rfl, rfl, rfl⟩ | ⟨k, rfl, rfl, rfl⟩
        · rw [← hwi]; exact .part k i hi hwl cs
        · rw [← hwi]; exact .coord k i hi hwl
      exact ⟨_, out, _, _, hq, hns2, rfl⟩
    · refine Sub.trans (B := ownS rMessage 19 216 81 H' v1 out :: bigL (ndP H') (es.set i (es[i].to q')) :: bigL (ndC H') (es.set i (es[i].to q')) :: wRow p (.slice base es.length cap) nb w.now (.slice d (w.log ++ noteL m.To rc).length e) :: wNs (.slice base es.length cap) (es.set i (es[i].to q')) :: wLog H2 (.slice d (w.log ++ noteL m.To rc).length e) (w.log ++ noteL m.To rc) :: R) subA ?_
      refine Sub.trans (ownS_up hl2) (Sub.trans (Sub.cons (Sub.trans (ndP_up hl2) (Sub.cons (ndC_up hl2)))) ?_)
      exact subA
end Go.Proofs.YtpphdbnifbjfmaaGreatDoor
