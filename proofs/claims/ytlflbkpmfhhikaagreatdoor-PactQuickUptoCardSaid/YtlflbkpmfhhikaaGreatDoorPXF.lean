/- A node begins its next life. -/
import Derived.Test.YtlflbkpmfhhikaaGreatDoorPTL
import Derived.Test.YtlflbkpmfhhikaaGreatDoorPTO
import Derived.Test.YtlflbkpmfhhikaaGreatDoorPTR
import Derived.Test.YtlflbkpmfhhikaaGreatDoorPXC
set_option linter.unusedVariables false
set_option linter.unusedSimpArgs false
namespace Go.Proofs.YtlflbkpmfhhikaaGreatDoor
open Go Go.Sx Go.Proofs
theorem send1_spec {W0 : World} {H H0 : Heap} {b : Nat} {c : List Value} {l : List Message} {m : Message} (hl : H0.le H) (h0 : rMessage H c m) :
    Ct Tryz.prog 67 #[ptrC b, .agg c.toArray] W0 H [Net.netO H0 (ptrC b) l] (fun r H' B => B = [Net.netO H' (ptrC b) (send1 l m)]) := by
  unfold send1
  by_cases h : l.length < 64
  · rw [if_pos h]
    exact (Net.send_yes (W0 := W0) (ms := l) hl h0 h).mono fun r H' B _ hq => hq.2
  · rw [if_neg h]
    exact (Net.send_no (W0 := W0) (ms := l) hl h0 h).mono fun r H' B _ hq => by rw [hq.2.1, hq.2.2]
set_option maxHeartbeats 4000000 in
theorem send_spec {W0 : World} {H H0 : Heap} {p nb : Nat} {nv lv v : Value} {now : Int} {l ms : List Message} (hl : H0.le H) (hs : SlR rMessage 19 H v ms) :
    Ct Tryz.prog 37 #[ptrC p, v] W0 H [wRow p nv nb now lv, Net.netO H0 (ptrC nb) l] (fun r H' B => B = [wRow p nv nb now lv, Net.netO H' (ptrC nb) (sendL l ms)]) := by
  refine Ct.go (vs := [ptrC p, v]) fun R => ?_
  obtain ⟨b0, c0, rfl, _, _⟩ := hs.shape
  refine walk ?_
  refine ex_loop (σ := Nat × Heap) (fun u => u.1 ≤ ms.length ∧ H.le u.2) (fun u => [(0, ptrC p), (6, .slice b0 ms.length c0), (7, I ms.length), (8, I u.1)]) (fun u => u.2) (fun u => wRow p nv nb now lv :: Net.netO u.2 (ptrC nb) (sendL l (ms.take u.1)) :: R) (fun u => ms.length - u.1) (0, H) ⟨Nat.zero_le _, .refl _⟩ (hs0 := ?_) fun ⟨k, HK⟩ ⟨hk0, hlK⟩ K hL => ?_
  rotate_left
  · refine Sub.trans (B := Net.netO H0 (ptrC nb) l :: wRow p nv nb now lv :: R) subA ?_
    refine Sub.trans (Net.netO_up hl) ?_
    exact subA
  simp only at hk0 hlK
  dsimp only
  refine walk ?_
  refine ex_if rfl (fun hk => ?_) (fun hk => ?_)
  · have hk1 : k < ms.length := by omega
    have ht : sendL l (ms.take (k + 1)) = send1 (sendL l (ms.take k)) ms[k] := by rw [List.take_succ_eq_append_getElem hk1]; unfold sendL; rw [List.foldl_append]; rfl
    refine walk ?_
    refine ops_ixp rfl rfl (hs.mono hlK) hk1 fun b o c hr hc => ?_
    generalize ms[k] = m at hc ht
    have hcc := hc
    obtain ⟨s1, s2, s3, s4, rfl, _, _, _, _, _, _, _, h1, h2, _, _, _, _, h3, _, _, _, h4⟩ := hc
    obtain ⟨b1, c1, rfl, _, _⟩ := h1.1.shape
    obtain ⟨b2, c2, rfl, _, _⟩ := h2.1.shape
    obtain ⟨b3, c3, rfl, _, _⟩ := h3.1.shape
    obtain ⟨b4, c4, rfl, _, _⟩ := h4.1.shape
    refine ops_ldNH rfl rfl hr rfl ?_
    refine ops_alloc rfl fun p5 _ => ?_
    refine walk ?_
    refine ex_any 5 [row p5 106 (m.cv (.slice b1 m.Work.Take.length c1) (.slice b2 m.Work.Drop.length c2) (.slice b3 m.Call.Route.Cells.length c3) (.slice b4 m.Reply.Route.Cells.length c4)), wRow p nv nb now lv] ?_
    refine stepY 0 ?_; refine stepY 1 ?_; refine stepY 2 ?_; refine stepY 3 ?_; refine stepY 4 ?_
    refine any_rest rfl ?_
    refine ops_call rfl rfl (send1_spec (W0 := W0) (H := HK) (H0 := HK) (b := nb) (l := sendL l (ms.take k)) (.refl _) hcc) fun r1 H1 B hl1 eB => ?_
    subst eB
    rw [← ht]
    refine walk ?_
    exact out_next hL (k + 1, H1) ⟨by simp only; omega, hlK.trans hl1⟩
  · clear hL
    obtain rfl : k = ms.length := by omega
    rw [List.take_length]
    refine walk ?_
    refine endnB [wRow p nv nb now lv, Net.netO HK (ptrC nb) (sendL l ms)] ?_
    exact rfl
def HMid (q : PN) (m : Message) (q' : PN) (out : List Message) (rc : List Rec) : Prop :=
  (toPart m ∧ ∃ cs, q' = ⟨hearS q.ps m cs, q.cs⟩ ∧ out = hearOut q.ps m ∧ rc = hearRec q.ps m) ∨ (¬ toPart m ∧ q' = ⟨q.ps, (cHear q.cs m).s⟩ ∧ out = (cHear q.cs m).out ∧ rc = (cHear q.cs m).rc)
theorem cHear_life {s : CS} {m : Message} : (cHear s m).s.life = s.life := by
  unfold cHear
  repeat' split
  all_goals rfl
theorem HMid.life {q q' : PN} {m : Message} {out : List Message} {rc : List Rec} (h : HMid q m q' out rc) : q'.cs.life = q.cs.life := by
  rcases h with ⟨_, cs, rfl, _⟩ | ⟨_, rfl, _⟩
  · rfl
  · exact cHear_life
theorem HMid.rcl {q q' : PN} {m : Message} {out : List Message} {rc : List Rec} (h : HMid q m q' out rc) : rc.length ≤ 1 := by
  rcases h with ⟨_, cs, _, _, rfl⟩ | ⟨_, _, _, rfl⟩
  · unfold hearRec
    repeat' split
    all_goals simp
  · unfold cHear
    repeat' split
    all_goals simp
def NE.to (e : NE) (q : PN) : NE := ⟨e.pp, e.cp, q⟩
theorem rl_set {es : List NE} {i : Nat} (hi : i < es.length) {q : PN} (hq : q.cs.life = es[i].q.cs.life) {cs : List Value} (h : RL rNE Heap.empty cs es) : RL rNE Heap.empty cs (es.set i (es[i].to q)) := by
  have key : ∀ (es : List NE) (i : Nat) (hi : i < es.length) (cs : List Value), q.cs.life = es[i].q.cs.life → RL rNE Heap.empty cs es → RL rNE Heap.empty cs (es.set i (es[i].to q)) := by
    intro es
    induction es with
    | nil => intro i hi; cases hi
    | cons e es ih =>
      intro i hi cs hq ⟨c, r, e1, h1, h2⟩
      cases i with
      | zero =>
        refine ⟨c, r, e1, ?_, h2⟩
        show c = [ptrC e.pp, ptrC e.cp, I q.cs.life]
        rw [show q.cs.life = e.q.cs.life from hq]; exact h1
      | succ i => exact ⟨c, r, e1, h1, ih i (by simpa using hi) r hq h2⟩
  exact key es i hi cs hq h
theorem ns_set {es : List NE} {i : Nat} (hi : i < es.length) {q : PN} (hq : q.cs.life = es[i].q.cs.life) {nv : Value} {L : List HProp} : Sub (wNs nv es :: L) (wNs nv (es.set i (es[i].to q)) :: L) := fun h ⟨h1, h2, ⟨cs, ⟨u, v⟩, w⟩, r⟩ => by
  refine ⟨h1, h2, ⟨cs, ⟨rl_set hi hq u, by rw [List.length_set]; exact v⟩, ?_⟩, r⟩
  rw [List.length_set]; exact w
structure WOk (n : Nat) (w : PW) : Prop where
  p : ∀ q ∈ w.ns, PInv n q.ps
  c : ∀ q ∈ w.ns, CInv n q.cs
  pl : ∀ q ∈ w.ns, ∀ k t, mget k q.cs.ts = some t → t.parts.length ≤ 1000
  n : n ≤ 500
  ll : w.log.length ≤ 900000000
  fn : ∀ q ∈ w.ns, fits (q.cs.life + 1)
  sh : ∀ i (h : i < w.ns.length), w.ns[i].ps.sh = i ∧ w.ns[i].cs.node = i
theorem es_take {es : List NE} {i : Nat} {e : NE} (hi : i < es.length) {A : NE → HProp} {L : List HProp} : Sub (A e :: bigL A (es.take i ++ es.drop (i + 1)) :: L) (bigL A (es.set i e) :: L) := bigL_set hi
theorem es_same {es : List NE} {i : Nat} (hi : i < es.length) {A : NE → HProp} {e : NE} (h : ∀ x, A es[i] x → A e x) {L : List HProp} : Sub (bigL A es :: L) (bigL A (es.set i e) :: L) :=
  (bigL_get hi).trans ((show Sub (A es[i] :: bigL A (es.take i ++ es.drop (i + 1)) :: L) (A e :: bigL A (es.take i ++ es.drop (i + 1)) :: L) from fun x ⟨h1, h2, a, r⟩ => ⟨h1, h2, h _ a, r⟩).trans (bigL_set hi))
def HearQ (H' : Heap) (p nb : Nat) (nv : Value) (w : PW) (m : Message) (es : List NE) (v : Value) (B : List HProp) : Prop :=
  ∃ w' out es' lv, PHear w m w' out ∧ w'.ns = es'.map NE.q ∧ B = [ownS rMessage 19 216 106 H' v out, wRow p nv nb w'.now lv, wNs nv es', bigL (ndP H') es', bigL (ndC H') es', wLog H' lv w'.log]
set_option maxHeartbeats 16000000 in
set_option maxRecDepth 20000 in
theorem hearW_spec {W0 : World} {H : Heap} {p nb n : Nat} {nv lv : Value} {w : PW} {m : Message} {c : List Value} {es : List NE} (hP : PkH H) (hns : w.ns = es.map NE.q) (KW : WOk n w) (hm : OkM m) (hc : rMessage H c m) (ht : isNode w m.To) :
    Ct Tryz.prog 39 #[ptrC p, .agg c.toArray] W0 H [wRow p nv nb w.now lv, wNs nv es, bigL (ndP H) es, bigL (ndC H) es, wLog H lv w.log] (fun r H' B => HearQ H' p nb nv w m es r B) := by
  refine Ct.go (vs := [ptrC p, .agg c.toArray]) fun R => ?_
  have hcc := hc
  obtain ⟨s1, s2, s3, s4, rfl, f1, f2, f3, f4, f5, f6, f7, h1, h2, f8, f9, f10, f11, h3, f12, f13, f14, h4⟩ := hc
  obtain ⟨b1, c1, rfl, _, _⟩ := h1.1.shape
  obtain ⟨b2, c2, rfl, _, _⟩ := h2.1.shape
  obtain ⟨b3, c3, rfl, _, _⟩ := h3.1.shape
  obtain ⟨b4, c4, rfl, _, _⟩ := h4.1.shape
  obtain ⟨i, hi⟩ : ∃ i : Nat, m.To = i := ⟨m.To.toNat, by unfold isNode at ht; omega⟩
  have hil : i < es.length := by
    unfold isNode at ht
    rw [hns, List.length_map] at ht
    omega
  have hwl : i < w.ns.length := by rw [hns, List.length_map]; exact hil
  have hwi : w.ns[i] = es[i].q := by simp only [hns, List.getElem_map]
  have hmem := es_mem hns hil
  refine ex_shape nv fun base cap e _ _ _ => ?_
  subst e
  refine walk ?_
  refine ops_box rfl rfl fun p3 _ => ?_
  refine walk ?_
  refine ex_lendS (.slice base es.length cap) fun D hD hdj hle hsl => ?_
  haveI hin : NatOf m.To i := ⟨hi⟩
  refine ex_any 10 [row p3 106 (m.cv (.slice b1 m.Work.Take.length c1) (.slice b2 m.Work.Drop.length c2) (.slice b3 m.Call.Route.Cells.length c3) (.slice b4 m.Reply.Route.Cells.length c4)), wRow p (.slice base es.length cap) nb w.now lv] ?_
  refine stepY 0 ?_; refine stepY 1 ?_; refine stepY 2 ?_; refine stepY 3 ?_; refine stepY 4 ?_; refine stepY 5 ?_
  refine gny_ixp 6 rfl rfl rfl hsl.1 hil fun b o cc hr hcn => ?_
  obtain rfl : cc = es[i].cv := hcn
  refine gny_ldNH 7 rfl rfl rfl hr rfl ?_
  refine gny_alloc 8 rfl rfl fun p7 _ => ?_
  refine any_sta 9 rfl rfl rfl rfl (by simp) rfl ⟨subA, ?_⟩
  refine any_rest rfl ?_
  refine ops_back hD hdj (.refl _) ?_
  have K2 : PInv n es[i].q.ps ∧ CInv n es[i].q.cs := ⟨KW.p _ hmem, KW.c _ hmem⟩
  have hpl := KW.pl _ hmem
  refine ops_cut1 (σ := PN × List Message × List Rec × Value × Value × Heap) (fun u => HMid es[i].q m u.1 u.2.1 u.2.2.1 ∧ H.le u.2.2.2.2.2) (fun u => [(0, ptrC p), (3, .pointer (some ⟨p3, 0, none⟩)), (5, u.2.2.2.1), (6, u.2.2.2.2.1)]) (fun u => u.2.2.2.2.2)
    (fun u => ownS rMessage 19 216 106 u.2.2.2.2.2 u.2.2.2.1 u.2.1 :: ownS rRec 9 120 53 u.2.2.2.2.2 u.2.2.2.2.1 u.2.2.1 :: row p3 106 (m.cv (.slice b1 m.Work.Take.length c1) (.slice b2 m.Work.Drop.length c2) (.slice b3 m.Call.Route.Cells.length c3) (.slice b4 m.Reply.Route.Cells.length c4)) :: wRow p (.slice base es.length cap) nb w.now lv :: wNs (.slice base es.length cap) (es.set i (es[i].to u.1)) :: bigL (ndP u.2.2.2.2.2) (es.set i (es[i].to u.1)) :: bigL (ndC u.2.2.2.2.2) (es.set i (es[i].to u.1)) :: wLog u.2.2.2.2.2 lv w.log :: R) (fun K hK => ?_) fun ⟨q', out, rc, v1, v2, H'⟩ ⟨hM, hlH⟩ => ?_
  · by_cases k : toPart m
    · have hcall := hear_spec (W0 := W0) (H := H) (p := es[i].pp) (n := n) (s := es[i].q.ps) hP K2.1 KW.n hm hcc
      refine ops_L (L' := ndP H es[i] :: bigL (ndP H) (es.take i ++ es.drop (i + 1)) :: wNs (.slice base es.length cap) es :: row p7 92 es[i].cv :: row p3 106 (m.cv (.slice b1 m.Work.Take.length c1) (.slice b2 m.Work.Drop.length c2) (.slice b3 m.Call.Route.Cells.length c3) (.slice b4 m.Reply.Route.Cells.length c4)) :: wRow p (.slice base es.length cap) nb w.now lv :: bigL (ndC H) es :: wLog H lv w.log :: R) ?_ ?_
      · refine Sub.trans (B := bigL (ndP H) es :: wNs (.slice base es.length cap) es :: row p7 92 es[i].cv :: row p3 106 (m.cv (.slice b1 m.Work.Take.length c1) (.slice b2 m.Work.Drop.length c2) (.slice b3 m.Call.Route.Cells.length c3) (.slice b4 m.Reply.Route.Cells.length c4)) :: wRow p (.slice base es.length cap) nb w.now lv :: bigL (ndC H) es :: wLog H lv w.log :: R) subA (bigL_get hil)
      rcases id k with k1 | k3
      · refine walk ?_
        refine ops_call (A := [ndP H es[i]]) rfl rfl hcall fun r1 H1 B hl1 ⟨v1, v2, cs, er, eB⟩ => ?_
        subst er eB
        refine walk ?_
        refine out_to hK (⟨hearS es[i].q.ps m cs, es[i].q.cs⟩, hearOut es[i].q.ps m, hearRec es[i].q.ps m, v1, v2, H1) ⟨.inl ⟨k, cs, rfl, rfl, rfl⟩, hl1⟩ (hs := ?_)
        dsimp only
        refine Sub.trans (B := ndP H1 (es[i].to ⟨hearS es[i].q.ps m cs, es[i].q.cs⟩) :: bigL (ndP H) (es.take i ++ es.drop (i + 1)) :: bigL (ndC H) es :: wNs (.slice base es.length cap) es :: wLog H lv w.log :: ownS rMessage 19 216 106 H1 v1 (hearOut es[i].q.ps m) :: ownS rRec 9 120 53 H1 v2 (hearRec es[i].q.ps m) :: row p3 106 (m.cv (.slice b1 m.Work.Take.length c1) (.slice b2 m.Work.Drop.length c2) (.slice b3 m.Call.Route.Cells.length c3) (.slice b4 m.Reply.Route.Cells.length c4)) :: wRow p (.slice base es.length cap) nb w.now lv :: R) subA ?_
        refine Sub.trans (Sub.cons (ndP_up hl1)) ?_
        refine Sub.trans (es_take (A := ndP H1) hil) ?_
        refine Sub.trans (Sub.cons (ndC_up hl1)) ?_
        refine Sub.trans (Sub.cons (es_same (A := ndC H1) hil (e := es[i].to ⟨hearS es[i].q.ps m cs, es[i].q.cs⟩) fun _ h => h)) ?_
        refine Sub.trans (Sub.cons (Sub.cons (ns_set hil (q := ⟨hearS es[i].q.ps m cs, es[i].q.cs⟩) rfl))) ?_
        refine Sub.trans (Sub.cons (Sub.cons (Sub.cons (log_up hl1)))) ?_
        exact subA
      · have k1 : ¬ m.Kind = 1 := by omega
        refine walk ?_
        refine ops_call (A := [ndP H es[i]]) rfl rfl hcall fun r1 H1 B hl1 ⟨v1, v2, cs, er, eB⟩ => ?_
        subst er eB
        refine walk ?_
        refine out_to hK (⟨hearS es[i].q.ps m cs, es[i].q.cs⟩, hearOut es[i].q.ps m, hearRec es[i].q.ps m, v1, v2, H1) ⟨.inl ⟨k, cs, rfl, rfl, rfl⟩, hl1⟩ (hs := ?_)
        dsimp only
        refine Sub.trans (B := ndP H1 (es[i].to ⟨hearS es[i].q.ps m cs, es[i].q.cs⟩) :: bigL (ndP H) (es.take i ++ es.drop (i + 1)) :: bigL (ndC H) es :: wNs (.slice base es.length cap) es :: wLog H lv w.log :: ownS rMessage 19 216 106 H1 v1 (hearOut es[i].q.ps m) :: ownS rRec 9 120 53 H1 v2 (hearRec es[i].q.ps m) :: row p3 106 (m.cv (.slice b1 m.Work.Take.length c1) (.slice b2 m.Work.Drop.length c2) (.slice b3 m.Call.Route.Cells.length c3) (.slice b4 m.Reply.Route.Cells.length c4)) :: wRow p (.slice base es.length cap) nb w.now lv :: R) subA ?_
        refine Sub.trans (Sub.cons (ndP_up hl1)) ?_
        refine Sub.trans (es_take (A := ndP H1) hil) ?_
        refine Sub.trans (Sub.cons (ndC_up hl1)) ?_
        refine Sub.trans (Sub.cons (es_same (A := ndC H1) hil (e := es[i].to ⟨hearS es[i].q.ps m cs, es[i].q.cs⟩) fun _ h => h)) ?_
        refine Sub.trans (Sub.cons (Sub.cons (ns_set hil (q := ⟨hearS es[i].q.ps m cs, es[i].q.cs⟩) rfl))) ?_
        refine Sub.trans (Sub.cons (Sub.cons (Sub.cons (log_up hl1)))) ?_
        exact subA
    · have k1 : ¬ m.Kind = 1 := fun h => k (.inl h)
      have k3 : ¬ m.Kind = 3 := fun h => k (.inr h)
      have hcall := chear_spec (W0 := W0) (H := H) (p := es[i].cp) (n := n) (s := es[i].q.cs) (m := m) K2.2 (by have := KW.n; omega) (fun k t h => Nat.le_trans (hpl k t h) (by omega)) hcc
      refine ops_L (L' := ndC H es[i] :: bigL (ndC H) (es.take i ++ es.drop (i + 1)) :: wNs (.slice base es.length cap) es :: row p7 92 es[i].cv :: row p3 106 (m.cv (.slice b1 m.Work.Take.length c1) (.slice b2 m.Work.Drop.length c2) (.slice b3 m.Call.Route.Cells.length c3) (.slice b4 m.Reply.Route.Cells.length c4)) :: wRow p (.slice base es.length cap) nb w.now lv :: bigL (ndP H) es :: wLog H lv w.log :: R) ?_ ?_
      · refine Sub.trans (B := bigL (ndC H) es :: wNs (.slice base es.length cap) es :: row p7 92 es[i].cv :: row p3 106 (m.cv (.slice b1 m.Work.Take.length c1) (.slice b2 m.Work.Drop.length c2) (.slice b3 m.Call.Route.Cells.length c3) (.slice b4 m.Reply.Route.Cells.length c4)) :: wRow p (.slice base es.length cap) nb w.now lv :: bigL (ndP H) es :: wLog H lv w.log :: R) subA (bigL_get hil)
      refine walk ?_
      refine ops_call (A := [ndC H es[i]]) rfl rfl hcall fun r1 H1 B hl1 ⟨v1, v2, v3, er, eB⟩ => ?_
      subst er eB
      refine walk ?_
      refine out_to hK (⟨es[i].q.ps, (cHear es[i].q.cs m).s⟩, (cHear es[i].q.cs m).out, (cHear es[i].q.cs m).rc, v1, v2, H1) ⟨.inr ⟨k, rfl, rfl, rfl⟩, hl1⟩ (hs := ?_)
      dsimp only
      refine Sub.trans (B := ndC H1 (es[i].to ⟨es[i].q.ps, (cHear es[i].q.cs m).s⟩) :: bigL (ndC H) (es.take i ++ es.drop (i + 1)) :: bigL (ndP H) es :: wNs (.slice base es.length cap) es :: wLog H lv w.log :: ownS rMessage 19 216 106 H1 v1 (cHear es[i].q.cs m).out :: ownS rRec 9 120 53 H1 v2 (cHear es[i].q.cs m).rc :: row p3 106 (m.cv (.slice b1 m.Work.Take.length c1) (.slice b2 m.Work.Drop.length c2) (.slice b3 m.Call.Route.Cells.length c3) (.slice b4 m.Reply.Route.Cells.length c4)) :: wRow p (.slice base es.length cap) nb w.now lv :: R) subA ?_
      refine Sub.trans (Sub.cons (ndC_up hl1)) ?_
      refine Sub.trans (es_take (A := ndC H1) hil) ?_
      refine Sub.trans (Sub.cons (ndP_up hl1)) ?_
      refine Sub.trans (Sub.cons (es_same (A := ndP H1) hil (e := es[i].to ⟨es[i].q.ps, (cHear es[i].q.cs m).s⟩) fun _ h => h)) ?_
      refine Sub.trans (Sub.cons (Sub.cons (ns_set hil (q := ⟨es[i].q.ps, (cHear es[i].q.cs m).s⟩) cHear_life))) ?_
      refine Sub.trans (Sub.cons (Sub.cons (Sub.cons (log_up hl1)))) ?_
      exact subA
  simp only at hM hlH
  dsimp only
  refine ex_freeze v2 fun H2 hl2 hrc => ?_
  refine ex_shape lv fun lb lc e _ _ _ => ?_
  subst e
  obtain ⟨br, cr, rfl, _, _⟩ := hrc.1.shape
  refine walk ?_
  refine ex_loop (σ := Nat × Option Addr × Nat) (fun u => u.1 ≤ rc.length) (fun u => [(0, ptrC p), (3, .pointer (some ⟨p3, 0, none⟩)), (5, v1), (38, .slice br rc.length cr), (39, I rc.length), (40, I u.1)]) (fun _ => H2)
    (fun u => wRow p (.slice base es.length cap) nb w.now (.slice u.2.1 (w.log ++ noteL m.To (rc.take u.1)).length u.2.2) :: wLog H2 (.slice u.2.1 (w.log ++ noteL m.To (rc.take u.1)).length u.2.2) (w.log ++ noteL m.To (rc.take u.1)) :: ownS rMessage 19 216 106 H' v1 out :: row p3 106 (m.cv (.slice b1 m.Work.Take.length c1) (.slice b2 m.Work.Drop.length c2) (.slice b3 m.Call.Route.Cells.length c3) (.slice b4 m.Reply.Route.Cells.length c4)) :: wNs (.slice base es.length cap) (es.set i (es[i].to q')) :: bigL (ndP H') (es.set i (es[i].to q')) :: bigL (ndC H') (es.set i (es[i].to q')) :: R) (fun u => rc.length - u.1) (0, lb, lc) (Nat.zero_le _) (hs0 := ?hs0) fun ⟨j, d, e⟩ hj0 K hL => ?_
  case hs0 =>
    simp only [List.take_zero]
    show Sub _ (wRow p (.slice base es.length cap) nb w.now (.slice lb (w.log ++ []).length lc) :: wLog H2 (.slice lb (w.log ++ []).length lc) (w.log ++ []) :: _)
    rw [List.append_nil]
    refine Sub.trans (B := wLog H' (.slice lb w.log.length lc) w.log :: ownS rMessage 19 216 106 H' v1 out :: row p3 106 (m.cv (.slice b1 m.Work.Take.length c1) (.slice b2 m.Work.Drop.length c2) (.slice b3 m.Call.Route.Cells.length c3) (.slice b4 m.Reply.Route.Cells.length c4)) :: wRow p (.slice base es.length cap) nb w.now (.slice lb w.log.length lc) :: wNs (.slice base es.length cap) (es.set i (es[i].to q')) :: bigL (ndP H') (es.set i (es[i].to q')) :: bigL (ndC H') (es.set i (es[i].to q')) :: R) subA ?_
    refine Sub.trans (log_up hl2) ?_
    exact subA
  simp only at hj0
  dsimp only
  refine walk ?_
  refine ex_if rfl (fun hj => ?_) (fun hj => ?_)
  · have hj1 : j < rc.length := by omega
    have hjn : noteL m.To (rc.take j) ++ [⟨m.To, rc[j]⟩] = noteL m.To (rc.take (j + 1)) := by rw [List.take_succ_eq_append_getElem hj1]; unfold noteL; rw [List.map_append]; rfl
    have hnl : (noteL m.To (rc.take j)).length = j := by unfold noteL; rw [List.length_map, List.length_take]; omega
    refine walk ?_
    refine ops_ixp rfl rfl hrc.1 hj1 fun b o cc hr hcr => ?_
    have hcq := hcr
    generalize rc[j] = q at hr hcr hcq hjn
    obtain ⟨t1, t2, t3, rfl, g1, g2, g3, g4, g5, g6, g7, g8⟩ := hcr
    obtain ⟨sb1, sc1, rfl, _, _⟩ := g6.1.shape
    obtain ⟨sb2, sc2, rfl, _, _⟩ := g7.1.shape
    obtain ⟨sb3, sc3, rfl, _, _⟩ := g8.1.shape
    refine ops_ldNH rfl rfl hr rfl ?_
    refine ops_alloc rfl fun p9 _ => ?_
    refine walk ?_
    refine ex_any 11 [row p9 53 (q.cv (.slice sb1 q.Work.Take.length sc1) (.slice sb2 q.Work.Drop.length sc2) (.slice sb3 q.Parts.length sc3)), row p3 106 (m.cv (.slice b1 m.Work.Take.length c1) (.slice b2 m.Work.Drop.length c2) (.slice b3 m.Call.Route.Cells.length c3) (.slice b4 m.Reply.Route.Cells.length c4)), wRow p (.slice base es.length cap) nb w.now (.slice d (w.log ++ noteL m.To (rc.take j)).length e)] ?_
    refine stepY 0 ?_; refine stepY 1 ?_; refine stepY 2 ?_; refine stepY 3 ?_; refine stepY 4 ?_; refine stepY 5 ?_; refine stepY 6 ?_; refine stepY 7 ?_; refine stepY 8 ?_
    have hlen2 : (w.log ++ noteL m.To (rc.take j)).length + 1 = (w.log ++ noteL m.To (rc.take (j + 1))).length := by rw [← hjn]; simp; omega
    refine any_app1 (y := (⟨m.To, q⟩ : PactNote)) 9 10 rfl rfl rfl ⟨_, _, _, rfl, f2, g1, g2, g3, g4, g5, g6, g7, g8⟩ ?_ fun d3 e3 => ⟨subA, ?_⟩
    · have := KW.ll
      rw [List.length_append, hnl]
      simp only [cap47]
      have := hM.rcl
      omega
    rw [hlen2, List.append_assoc, hjn]
    refine any_rest rfl ?_
    refine walk ?_
    exact out_next hL (j + 1, d3, e3) (by simp only; omega)
  · clear hL
    obtain rfl : j = rc.length := by omega
    rw [List.take_length]
    refine walk ?_
    have hns2 : (setN w i q').ns = (es.set i (es[i].to q')).map NE.q := by
      show w.ns.set i q' = _
      rw [hns, List.map_set]; rfl
    refine finB [ownS rMessage 19 216 106 H2 v1 out, wRow p (.slice base es.length cap) nb w.now (.slice d (w.log ++ noteL m.To rc).length e), wNs (.slice base es.length cap) (es.set i (es[i].to q')), bigL (ndP H2) (es.set i (es[i].to q')), bigL (ndC H2) (es.set i (es[i].to q')), wLog H2 (.slice d (w.log ++ noteL m.To rc).length e) (w.log ++ noteL m.To rc)] ?_ (hs := ?_)
    · have hq : PHear w m { setN w i q' with log := w.log ++ noteL m.To rc } out := by
        rcases hM with ⟨k, cs, rfl, rfl, rfl⟩ | ⟨k, rfl, rfl, rfl⟩
        · rw [← hwi]; exact .part k i hi hwl cs
        · rw [← hwi]; exact .coord k i hi hwl
      exact ⟨_, out, _, _, hq, hns2, rfl⟩
    · refine Sub.trans (B := ownS rMessage 19 216 106 H' v1 out :: bigL (ndP H') (es.set i (es[i].to q')) :: bigL (ndC H') (es.set i (es[i].to q')) :: wRow p (.slice base es.length cap) nb w.now (.slice d (w.log ++ noteL m.To rc).length e) :: wNs (.slice base es.length cap) (es.set i (es[i].to q')) :: wLog H2 (.slice d (w.log ++ noteL m.To rc).length e) (w.log ++ noteL m.To rc) :: R) subA ?_
      refine Sub.trans (ownS_up hl2) (Sub.trans (Sub.cons (Sub.trans (ndP_up hl2) (Sub.cons (ndC_up hl2)))) ?_)
      exact subA
def neC (es : List NE) : List Value := (es.map NE.cv).flatten
theorem rl_ne : ∀ {es : List NE} {cs : List Value}, RL rNE Heap.empty cs es ↔ cs = neC es
  | [], cs => Iff.rfl
  | e :: es, cs => by
    constructor
    · rintro ⟨c, r, rfl, h1, h2⟩
      rw [rl_ne.1 h2, show c = e.cv from h1]; rfl
    · rintro rfl
      exact ⟨e.cv, neC es, rfl, rfl, rl_ne.2 rfl⟩
theorem neC_len : ∀ {es : List NE}, (neC es).length = es.length * 3
  | [] => rfl
  | e :: es => by
    show (e.cv ++ neC es).length = (es.length + 1) * 3
    rw [List.length_append, neC_len]
    show 3 + es.length * 3 = (es.length + 1) * 3
    omega
theorem neC_get {sp : List Value} : ∀ {es : List NE} {i k : Nat} {v : Value} (hi : i < es.length), es[i].cv[k]? = some v → (neC es ++ sp)[i * 3 + k]? = some v
  | [], i, k, v, hi, h => by cases hi
  | e :: es, 0, k, v, hi, h => by
    have hk : k < 3 := (List.getElem?_eq_some_iff.1 h).1
    show (e.cv ++ neC es ++ sp)[0 * 3 + k]? = _
    rw [List.append_assoc, List.getElem?_append_left (by show _ < 3; omega), show 0 * 3 + k = k by omega]
    exact h
  | e :: es, i + 1, k, v, hi, h => by
    show (e.cv ++ neC es ++ sp)[(i + 1) * 3 + k]? = _
    rw [List.append_assoc, List.getElem?_append_right (by show 3 ≤ _; omega), show (i + 1) * 3 + k - e.cv.length = i * 3 + k by show (i + 1) * 3 + k - 3 = _; omega]
    exact neC_get (by simpa using hi) h
theorem neC_set {sp : List Value} {e' : NE} {v : Value} {k : Nat} (hk : k < 3) : ∀ {es : List NE} {i : Nat} (hi : i < es.length), es[i].cv.set k v = e'.cv → (neC es ++ sp).set (i * 3 + k) v = neC (es.set i e') ++ sp
  | [], i, hi, h => by cases hi
  | e :: es, 0, hi, h => by
    show (e.cv ++ neC es ++ sp).set (0 * 3 + k) v = (e'.cv ++ neC es) ++ sp
    rw [List.append_assoc, List.append_assoc, show 0 * 3 + k = k by omega, List.set_append_left _ _ (by show _ < 3; omega)]
    congr 1
  | e :: es, i + 1, hi, h => by
    show (e.cv ++ neC es ++ sp).set ((i + 1) * 3 + k) v = (e.cv ++ neC (es.set i e')) ++ sp
    rw [List.append_assoc, List.append_assoc, List.set_append_right _ _ (by show 3 ≤ _; omega), show (i + 1) * 3 + k - e.cv.length = i * 3 + k by show (i + 1) * 3 + k - 3 = _; omega]
    congr 1
    exact neC_set hk (by simpa using hi) h
theorem set_cut {l : List Value} {j : Nat} {v : Value} (h : j < l.length) : l.take j ++ [v] ++ l.drop (j + [v].length) = l.set j v := by
  rw [List.set_eq_take_append_cons_drop, if_pos h]; simp
theorem row_ns {es : List NE} {b cap : Nat} {sp : List Value} {L : List HProp} (h1 : es.length ≤ cap) (h2 : cap ≤ 9223372036854775807) (h4 : (neC es ++ sp).length = cap * 3) (h6 : es.length * 24 ≤ cap47) :
    Sub (row b 92 (neC es ++ sp) :: L) (wNs (.slice (some ⟨b, 0, none⟩) es.length cap) es :: L) :=
  (own_shut neC_len h1 h2 h4).trans (ownS_mk (rl_ne.2 rfl) h6)
def absP (s : PS) : Part := ⟨s.sh, ⟨holdsL s.t, prepL s.t⟩, (doneL s).map toR⟩
theorem absP_rel {n : Nat} {s : PS} (I : PInv n s) : PRel s (absP s) := ⟨rfl, rel_self I.t, doneL_spec I.dd⟩
theorem HSpec.ext {l : List Hold} {f g : ByteArray → Option Int} (h : HSpec l f) (h' : HSpec l g) (k : ByteArray) : f k = g k := by
  have key : ∀ {f g : ByteArray → Option Int}, HSpec l f → HSpec l g → ∀ {v}, f k = some v → g k = some v := fun {f g} h h' {v} hf => (h'.mem ⟨k, v⟩).1 ((h.mem ⟨k, v⟩).2 hf)
  cases hf : f k with
  | some v => exact (key h h' hf).symm
  | none =>
    cases hg : g k with
    | none => rfl
    | some v => rw [key h' h hg] at hf; cases hf
theorem loaded_same {n : Nat} {s : PS} {s' : TS} {d' : List (K3 × Int)} (I : PInv n s) (g3 : Rel s' (absP s).T) (k3 : ∀ k, mget k d' = mget k s.done) : PSame s ⟨s.sh, s', d'⟩ :=
  ⟨rfl, fun k => g3.p.ext (absP_rel I).r.p k, fun k => g3.h.ext (absP_rel I).r.h k, k3⟩
def CrashQ (n : Nat) (H' : Heap) (p nb : Nat) (nv lv : Value) (w : PW) (i : Nat) (B : List HProp) : Prop :=
  ∃ w' es', PCrash n w i w' ∧ w'.ns = es'.map NE.q ∧ B = [wRow p nv nb w'.now lv, wNs nv es', bigL (ndP H') es', bigL (ndC H') es', Net.netO H' (ptrC nb) w'.net]
theorem ct_old {P : Program} {f : FuncId} {vs : Array Value} {W0 : World} {H : Heap} {A A' : HProp} {A2 : List HProp} {Post : Value → Heap → List HProp → Prop} (h : Ct P f vs W0 H (A' :: A2) Post) (hu : ∀ h, A h → A' h) : Ct P f vs W0 H (A :: A2) Post :=
  Ct.open (σ := Unit) (B := fun _ => [A']) (fun h ha => ⟨(), big_one (hu h ha)⟩) fun _ => h
set_option maxHeartbeats 16000000 in
set_option maxRecDepth 20000 in
theorem crash_spec {W0 : World} {H : Heap} {p nb n i : Nat} {nv lv : Value} {w : PW} {es : List NE} (hns : w.ns = es.map NE.q) (KW : WOk n w) (hil : i < es.length) :
    Ct Tryz.prog 40 #[ptrC p, I i] W0 H [wRow p nv nb w.now lv, wNs nv es, bigL (ndP H) es, bigL (ndC H) es, Net.netO H (ptrC nb) w.net] (fun r H' B => CrashQ n H' p nb nv lv w i B) := by
  refine Ct.go (vs := [ptrC p, I i]) fun R => ?_
  have hwl : i < w.ns.length := by rw [hns, List.length_map]; exact hil
  have hwi : w.ns[i] = es[i].q := by simp only [hns, List.getElem_map]
  have hmem := es_mem hns hil
  have IP := KW.p _ hmem
  have IC := KW.c _ hmem
  have hpl := KW.pl _ hmem
  have hfl := KW.fn _ hmem
  have hn := KW.n
  refine ex_shape nv fun base cap e _ _ _ => ?_
  subst e
  refine walk ?_
  refine ops_rowS (.slice base es.length cap) (by omega) fun b2 cap2 cs sp e q1 q2 q3 q4 q5 q6 => ?_
  cases e
  obtain rfl := rl_ne.1 q5
  refine walk ?_
  have hlc : i * 3 + 3 ≤ (neC es ++ sp).length := by rw [List.length_append, neC_len]; omega
  refine ops_ldc (v := I es[i].q.cs.life) rfl rfl (by rw [Nat.zero_add]; exact neC_get hil rfl) ?_
  obtain ⟨e1, he1⟩ : ∃ e1 : NE, e1 = ⟨es[i].pp, es[i].cp, ⟨es[i].q.ps, ⟨es[i].q.cs.node, es[i].q.cs.life + 1, es[i].q.cs.count, es[i].q.cs.ts⟩⟩⟩ := ⟨_, rfl⟩
  have hc1 : (neC es ++ sp).set (i * 3 + 2) (I (es[i].q.cs.life + 1)) = neC (es.set i e1) ++ sp := neC_set (by omega) hil (by rw [he1]; rfl)
  refine walk ?_
  refine ops_sta (cs' := neC (es.set i e1) ++ sp) rfl rfl rfl (by simp only [Nat.zero_add]; show _ + 1 ≤ _; omega) (by rw [← hc1, Nat.zero_add]; exact set_cut (by omega)) ?_
  refine walk ?_
  have hl1i : i < (es.set i e1).length := by rw [List.length_set]; exact hil
  have hg1 : (es.set i e1)[i] = e1 := by rw [List.getElem_set_self]
  have hp1 : (neC (es.set i e1) ++ sp)[0 + i * 3]? = some (ptrC es[i].pp) := by rw [Nat.zero_add]; exact neC_get (k := 0) hl1i (by rw [hg1, he1]; rfl)
  have hok1 : TsOk es[i].q.ps.t := IP.t.ok (by omega)
  refine ex_L (L' := ndP H es[i] :: bigL (ndP H) (es.take i ++ es.drop (i + 1)) :: row b2 92 (neC (es.set i e1) ++ sp) :: wRow p (.slice (some ⟨b2, 0, none⟩) es.length cap) nb w.now lv :: bigL (ndC H) es :: Net.netO H (ptrC nb) w.net :: R) ?_ ?_
  · refine Sub.trans (B := bigL (ndP H) es :: row b2 92 (neC (es.set i e1) ++ sp) :: wRow p (.slice (some ⟨b2, 0, none⟩) es.length cap) nb w.now lv :: bigL (ndC H) es :: Net.netO H (ptrC nb) w.net :: R) subA (bigL_get hil)
  refine ex_open (A := partO H es[i].pp (NE.q es[i]).ps) (σ := Nat × Nat) (B := fun a => [pRow es[i].pp a.1 (PS.sh (NE.q es[i]).ps) a.2, tabO H a.1 (PS.t (NE.q es[i]).ps), dMap H a.2 (NE.q es[i]).ps]) (p := fun _ => True) (by repeat (first | exact Has.here | apply Has.there)) (fun h ⟨tp, db, hbig⟩ => ⟨(tp, db), trivial, hbig⟩) fun ⟨tp, db⟩ _ => ?_
  dsimp only
  refine ex_z 30 ?_
  refine z_take 0 rfl rfl ?_
  refine z_any 25 [row b2 92 (neC (es.set i e1) ++ sp), pRow es[i].pp tp es[i].q.ps.sh db] ?_
  refine stepY 1 ?_; refine stepY 2 ?_; refine stepY 3 ?_; refine stepY 4 ?_
  refine gny_ld 5 rfl rfl rfl hp1 ?_
  refine stepY 6 ?_; refine stepY 7 ?_; refine stepY 8 ?_; refine stepY 10 ?_; refine stepY 11 ?_; refine stepY 12 ?_
  refine gny_ld 13 rfl rfl rfl hp1 ?_
  refine stepY 14 ?_; refine stepY 15 ?_; refine stepY 16 ?_; refine stepY 18 ?_; refine stepY 19 ?_; refine stepY 20 ?_
  refine gny_ld 21 rfl rfl rfl hp1 ?_
  have hks : ∀ q ∈ prepL es[i].q.ps.t, q.Work.ks.length * 16 ≤ cap47 := fun q hq => by
    have := (IP.t.ww _ _ (IP.t.recs hq)).1.1.ks_len
    simp only [cap47]; omega
  have hplen : (prepL es[i].q.ps.t).length ≤ 1000000 := by have := IP.t.wn; unfold prepL; rw [List.length_map, sort3_len, List.length_map]; omega
  refine gny_call 9 rfl rfl rfl (holds_spec (W0 := W0) (H := H) (p := tp) hok1) fun r1 H1 B hl1 eB => ?_
  subst eB
  refine ⟨subA, ?_⟩
  refine any_freeze r1 fun H2 hl2 hsh => ?_
  refine any_L (L' := tabO H2 tp es[i].q.ps.t :: pRow es[i].pp tp es[i].q.ps.sh db :: dMap H db es[i].q.ps :: bigL (ndP H) (es.take i ++ es.drop (i + 1)) :: row b2 92 (neC (es.set i e1) ++ sp) :: wRow p (.slice (some ⟨b2, 0, none⟩) es.length cap) nb w.now lv :: bigL (ndC H) es :: Net.netO H (ptrC nb) w.net :: R) ?_ ?_
  · refine Sub.trans ?_ (tab_up hl2)
    exact subA
  refine gny_call 17 rfl rfl rfl (prepared_spec (W0 := W0) (H := H2) (p := tp) hok1) fun r3 H3 B hl3 eB => ?_
  subst eB
  refine ⟨subA, ?_⟩
  refine any_freeze r3 fun H4 hl4 hsp => ?_
  refine gny_call 22 rfl rfl rfl (doneP_spec (W0 := W0) (H := H4) (p := es[i].pp) (tp := tp) (db := db) (Ht := H3) (Hd := H) IP (by omega) hl4 (hl1.trans (hl2.trans (hl3.trans hl4)))) fun r5 H5 B hl5 eB => ?_
  subst eB
  refine ⟨subA, ?_⟩
  refine any_freeze r5 fun H6 hl6 hsd => ?_
  have hrel := (absP_rel IP).r
  refine gny_call 23 rfl rfl rfl (pload_spec (W0 := W0) (H := H6) (sh := (i : Int)) (hsh.mono (hl3.trans (hl4.trans (hl5.trans hl6)))) (hsp.mono (hl5.trans hl6)) hsd hplen hks (fun s' a' hLP => by
    obtain ⟨g1, g2, g3⟩ := load_own IP.t hrel hLP
    exact ⟨g1, g2.ok (by omega), g2.wd⟩)) fun r7 H7 B hl7 ⟨s', a', p', hLP, hQ⟩ => ?_
  obtain ⟨g1, g2, g3⟩ := load_own IP.t hrel hLP
  obtain ⟨d', k1, k2, k3, k4⟩ := loadD_own (n' := n) (t := s') IP (fun k => g3.p.ext hrel.p k)
  rcases hQ with ⟨hQ, _⟩ | ⟨d2, hd2, er, eB⟩
  · rw [k1] at hQ; cases hQ
  rw [k1] at hd2
  cases hd2
  subst er eB
  obtain ⟨hI', hR'⟩ := IP.loaded (absP_rel IP) g2 g3 k2 k3 k4
  have hsame := loaded_same IP g3 k3
  refine ⟨subA, ?_⟩
  refine stepY 24 ?_
  refine any_stage 30 [] ?_
  refine gny_ext 25 rfl rfl rfl rfl ?_
  refine gny_ext 26 rfl rfl rfl rfl ?_
  refine stepY 27 ?_; refine stepY 28 ?_
  have hl2c : i * 3 + 3 ≤ (neC (es.set i e1) ++ sp).length := by rw [List.length_append, neC_len, List.length_set]; omega
  obtain ⟨e2, he2⟩ : ∃ e2 : NE, e2 = ⟨p', es[i].cp, ⟨es[i].q.ps, ⟨es[i].q.cs.node, es[i].q.cs.life + 1, es[i].q.cs.count, es[i].q.cs.ts⟩⟩⟩ := ⟨_, rfl⟩
  have hc2 : (neC (es.set i e1) ++ sp).set (i * 3 + 0) (ptrC p') = neC (es.set i e2) ++ sp := by
    rw [neC_set (e' := e2) (by omega) hl1i (by rw [hg1, he1, he2]; rfl), List.set_set]
  refine any_sta 29 (cs' := neC (es.set i e2) ++ sp) rfl rfl rfl rfl (by simp only [Nat.zero_add]; show _ + 1 ≤ _; omega) (by rw [← hc2, Nat.zero_add]; exact set_cut (by omega)) ⟨subA, ?_⟩
  refine any_rest rfl ?_
  refine walk ?_
  have hl2i : i < (es.set i e2).length := by rw [List.length_set]; exact hil
  have hg2 : (es.set i e2)[i] = e2 := by rw [List.getElem_set_self]
  have hlf : (neC (es.set i e2) ++ sp)[0 + i * 3 + 2]? = some (I (es[i].q.cs.life + 1)) := by rw [Nat.zero_add]; exact neC_get (k := 2) hl2i (by rw [hg2, he2]; rfl)
  have hcp : (neC (es.set i e2) ++ sp)[0 + i * 3 + 1]? = some (ptrC es[i].cp) := by rw [Nat.zero_add]; exact neC_get (k := 1) hl2i (by rw [hg2, he2]; rfl)
  have hl17 := hl1.trans (hl2.trans (hl3.trans (hl4.trans (hl5.trans (hl6.trans hl7)))))
  refine ex_L (L' := ndC H es[i] :: bigL (ndC H) (es.take i ++ es.drop (i + 1)) :: row b2 92 (neC (es.set i e2) ++ sp) :: partO H7 p' ⟨(i : Int), s', d'⟩ :: bigL (ndP H) (es.take i ++ es.drop (i + 1)) :: wRow p (.slice (some ⟨b2, 0, none⟩) es.length cap) nb w.now lv :: Net.netO H (ptrC nb) w.net :: R) ?_ ?_
  · refine Sub.trans (B := bigL (ndC H) es :: row b2 92 (neC (es.set i e2) ++ sp) :: partO H7 p' ⟨(i : Int), s', d'⟩ :: bigL (ndP H) (es.take i ++ es.drop (i + 1)) :: wRow p (.slice (some ⟨b2, 0, none⟩) es.length cap) nb w.now lv :: Net.netO H (ptrC nb) w.net :: R) subA (bigL_get hil)
  refine ex_z 18 ?_
  refine z_take 0 rfl rfl ?_
  refine z_any 13 [row b2 92 (neC (es.set i e2) ++ sp)] ?_
  refine stepY 1 ?_; refine stepY 2 ?_; refine stepY 3 ?_; refine stepY 4 ?_
  refine gny_ld 5 rfl rfl rfl hlf ?_
  refine stepY 6 ?_; refine stepY 7 ?_; refine stepY 8 ?_
  refine gny_ld 9 rfl rfl rfl hcp ?_
  refine gny_call (A := [ndC H es[i]]) 10 rfl rfl rfl (ct_old (open_spec (W0 := W0) (H := H7) (p := es[i].cp) (n := n) (s := es[i].q.cs) IC (by omega) (fun k t h => by have := hpl k t h; simp only [cap47]; omega)) fun _ hc => coord_mono hl17 hc) fun r8 H8 B hl8 eB => ?_
  subst eB
  refine ⟨subA, ?_⟩
  refine any_freeze r8 fun H9 hl9 hso => ?_
  have hsh := KW.sh i hwl
  rw [hwi] at hsh
  have hfi : fits (i : Int) := by rw [← hsh.2]; exact IC.fn
  refine gny_call 11 rfl rfl rfl (cload_spec (W0 := W0) (H := H9) (node := (i : Int)) (life := es[i].q.cs.life + 1) hfi hfl hso (Nat.le_trans openL_len (Nat.le_trans IC.ln (by omega)))) fun r10 H10 B hl10 hQ => ?_
  have hall : ∀ r ∈ openL es[i].q.cs, OkR (i : Int) (es[i].q.cs.life + 1) r := fun r hr => by rw [← hsh.2]; exact (openL_ok IC hr).1
  rcases hQ with ⟨⟨q, hq, hq2⟩, _⟩ | ⟨_, hq, _⟩ | ⟨_, _, c', er, eB⟩
  · exact absurd (hall q hq) hq2
  · exact absurd (openL_nodup IC) hq
  subst er eB
  refine ⟨subA, ?_⟩
  refine stepY 12 ?_
  refine any_stage 18 [] ?_
  refine gny_ext 13 rfl rfl rfl rfl ?_
  refine gny_ext 14 rfl rfl rfl rfl ?_
  refine stepY 15 ?_; refine stepY 16 ?_
  have hl3c : i * 3 + 3 ≤ (neC (es.set i e2) ++ sp).length := by rw [List.length_append, neC_len, List.length_set]; omega
  obtain ⟨e3, he3⟩ : ∃ e3 : NE, e3 = ⟨p', c', ⟨⟨(i : Int), s', d'⟩, crashC es[i].q.cs⟩⟩ := ⟨_, rfl⟩
  have hc3 : (neC (es.set i e2) ++ sp).set (i * 3 + 1) (ptrC c') = neC (es.set i e3) ++ sp := by
    rw [neC_set (e' := e3) (by omega) hl2i (by rw [hg2, he2, he3]; rfl), List.set_set]
  refine any_sta 17 (cs' := neC (es.set i e3) ++ sp) rfl rfl rfl rfl (by simp only [Nat.zero_add]; show _ + 1 ≤ _; omega) (by rw [← hc3, Nat.zero_add]; exact set_cut (by omega)) ⟨subA, ?_⟩
  refine any_rest rfl ?_
  have hlz := hl17.trans (hl8.trans (hl9.trans hl10))
  refine walk ?_
  refine ops_call rfl rfl (Net.clear_spec (W0 := W0) (H := H10) (H0 := H) (p := ptrC nb) (ms := w.net) (to := (i : Int)) hlz) fun r11 H11 B hl11 ⟨er, eB, eH⟩ => ?_
  subst er eB eH
  refine walk ?_
  rw [hsh.1] at hsame hI'
  have hns3 : (setN w i ⟨⟨(i : Int), s', d'⟩, crashC es[i].q.cs⟩).ns = (es.set i e3).map NE.q := by
    show w.ns.set i _ = _
    rw [hns, List.map_set, he3]
  have hpc : PCrash n w i { setN w i ⟨⟨(i : Int), s', d'⟩, crashC es[i].q.cs⟩ with net := Net.clr i w.net } := by
    have := PCrash.mk (n := n) (w := w) (i := i) hwl ⟨(i : Int), s', d'⟩ (by rw [hwi]; exact hsame) hI'
    rw [hwi] at this
    exact this
  refine endnB [wRow p (.slice (some ⟨b2, 0, none⟩) es.length cap) nb w.now lv, wNs (.slice (some ⟨b2, 0, none⟩) es.length cap) (es.set i e3), bigL (ndP H11) (es.set i e3), bigL (ndC H11) (es.set i e3), Net.netO H11 (ptrC nb) (Net.clr i w.net)] ?_ (hs := ?_)
  · exact ⟨_, _, hpc, hns3, rfl⟩
  · refine Sub.trans (B := row b2 92 (neC (es.set i e3) ++ sp) :: partO H7 p' ⟨(i : Int), s', d'⟩ :: bigL (ndP H) (es.take i ++ es.drop (i + 1)) :: ndC H11 e3 :: bigL (ndC H) (es.take i ++ es.drop (i + 1)) :: wRow p (.slice (some ⟨b2, 0, none⟩) es.length cap) nb w.now lv :: Net.netO H11 (ptrC nb) (Net.clr i w.net) :: R) (by rw [show ndC H11 e3 = coordO H11 c' (crashC es[i].q.cs) by rw [he3]; rfl, show crashC es[i].q.cs = ⟨(i : Int), es[i].q.cs.life + 1, 0, loadTs (openL es[i].q.cs) []⟩ by unfold crashC; rw [hsh.2]]; exact subA) ?_
    have hlx := hl8.trans (hl9.trans hl10)
    refine Sub.trans (B := row b2 92 (neC (es.set i e3) ++ sp) :: ndP H11 e3 :: bigL (ndP H11) (es.take i ++ es.drop (i + 1)) :: ndC H11 e3 :: bigL (ndC H11) (es.take i ++ es.drop (i + 1)) :: wRow p (.slice (some ⟨b2, 0, none⟩) es.length cap) nb w.now lv :: Net.netO H11 (ptrC nb) (Net.clr i w.net) :: R) ?_ ?_
    · refine Sub.cons (Sub.trans (part_up hlx) ?_)
      rw [show partO H11 p' ⟨(i : Int), s', d'⟩ = ndP H11 e3 by rw [he3]; rfl]
      exact Sub.cons (Sub.trans (ndP_up hlz) (Sub.cons (Sub.cons (ndC_up hlz))))
    · refine Sub.trans (Sub.cons (es_take (A := ndP H11) hil)) ?_
      refine Sub.trans (Sub.cons (Sub.cons (es_take (A := ndC H11) hil))) ?_
      refine Sub.trans (row_ns (by rw [List.length_set]; exact q1) q2 (by rw [List.length_append, neC_len, List.length_set]; rw [List.length_append, neC_len] at q4; exact q4) (by rw [List.length_set]; exact q6)) ?_
      rw [List.length_set]
      exact subA
end Go.Proofs.YtlflbkpmfhhikaaGreatDoor
