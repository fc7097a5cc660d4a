/- The reference's coordinator: Hear. -/
import Derived.Test.YthoafjeampbkeaaCUG
import Derived.Test.YthoafjeampbkeaaCTX
import Derived.Test.YthoafjeampbkeaaCTP
set_option linter.unusedVariables false
set_option linter.unusedSimpArgs false
namespace Go.Proofs.Ythoafjeampbkeaa
open Go Go.Sx Go.Proofs
/-- what the reference's Hear answers -/
def RHearCQ (m : Coord) (g : Message) (r : Value) (H' : Heap) (B : List HProp) : Prop :=
  ∃ c' m' v1 v2 v3 out rec oc, r = .tuple #[.agg c'.toArray, v1, v2, v3] ∧ rCoord H' c' m' ∧ SlB rMessage 19 216 H' v1 out ∧ SlB rRec 9 120 H' v2 rec ∧ SlB rO16 5 32 H' v3 oc ∧ RCHear m g m' out rec oc ∧ B = []
theorem rise_uniq {l : List RTx} (hr : l.Pairwise fun a b => ltK a.X.k b.X.k) {u t : RTx} (hu : u ∈ l) (ht : t ∈ l) (he : u.X = t.X) : u = t := by
  obtain ⟨i, hi, rfl⟩ := List.getElem_of_mem hu
  obtain ⟨j, hj, rfl⟩ := List.getElem_of_mem ht
  have hp := List.pairwise_iff_getElem.1 hr
  rcases Nat.lt_trichotomy i j with h | h | h
  · have := hp i j hi hj h
    rw [he] at this
    exact absurd this ltK_irr
  · subst h; rfl
  · have := hp j i hj hi h
    rw [he] at this
    exact absurd this ltK_irr
/-- the loop over the parts: where the one that speaks stands, and whether all others have been heard -/
def HU (ps : List Int) (hd : List Bool) (p : Int) (k : Nat) (part : Int) (all : Bool) : Prop :=
  ((part = -1 ∧ ∀ i (h : i < ps.length), i < k → ps[i] ≠ p) ∨ ∃ i, ∃ h : i < ps.length, i < k ∧ part = (i : Int) ∧ ps[i] = p) ∧ (all = true ↔ ∀ i (h : i < ps.length), i < k → ps[i] ≠ p → hd[i]?.getD false = true)
theorem HU.start {ps : List Int} {hd : List Bool} {p : Int} : HU ps hd p 0 (-1) true := ⟨.inl ⟨rfl, fun i _ h => by omega⟩, ⟨fun _ i _ h => by omega, fun _ => rfl⟩⟩
theorem HU.yes {ps : List Int} {hd : List Bool} {p : Int} {k : Nat} {part : Int} {all : Bool} (h : HU ps hd p k part all) (hk : k < ps.length) (hp : ps[k] = p) : HU ps hd p (k + 1) (k : Int) all := by
  refine ⟨.inr ⟨k, hk, by omega, rfl, hp⟩, ?_⟩
  rw [h.2]
  constructor
  · intro h1 i hi hik hne
    by_cases e : i = k
    · subst e; exact absurd hp hne
    · exact h1 i hi (by omega) hne
  · intro h1 i hi hik hne
    exact h1 i hi (by omega) hne
theorem HU.no {ps : List Int} {hd : List Bool} {p : Int} {k : Nat} {part : Int} {all all' : Bool} (h : HU ps hd p k part all) (hk : k < ps.length) (hp : ¬ ps[k] = p) (ha : all' = true ↔ all = true ∧ hd[k]?.getD false = true) : HU ps hd p (k + 1) part all' := by
  refine ⟨?_, ?_⟩
  · rcases h.1 with ⟨e, h1⟩ | ⟨i, hi, hik, e, h1⟩
    · refine .inl ⟨e, fun i hi hik => ?_⟩
      by_cases e2 : i = k
      · subst e2; exact hp
      · exact h1 i hi (by omega)
    · exact .inr ⟨i, hi, by omega, e, h1⟩
  · rw [ha, h.2]
    constructor
    · rintro ⟨h1, h2⟩ i hi hik hne
      by_cases e : i = k
      · subst e; exact h2
      · exact h1 i hi (by omega) hne
    · intro h1
      exact ⟨fun i hi hik hne => h1 i hi (by omega) hne, h1 k hk (by omega) hp⟩
set_option maxHeartbeats 16000000 in
set_option maxRecDepth 20000 in
theorem rHearC_spec {W0 : World} {H : Heap} {c cm : List Value} {m : Coord} {g : Message} (h0 : rCoord H c m) (hm : rMessage H cm g) (hok : TxsOk m.Txns) (hri : m.Txns.Pairwise fun a b => ltK a.X.k b.X.k) (hn : m.Txns.length ≤ 1000) :
    Ct Try.prog 42 #[.agg c.toArray, .agg cm.toArray] W0 H [] (fun r H' B => RHearCQ m g r H' B) := by
  refine Ct.go (vs := [.agg c.toArray, .agg cm.toArray]) fun R => ?_
  obtain ⟨s1, rfl, f1, f2, f3, hs1⟩ := h0
  obtain ⟨b1, c1, rfl, hc1, hd1⟩ := hs1.1.shape
  obtain ⟨t1, t2, t3, t4, rfl, k1, k2, k3, k4, k5', k6, k7, j1, j2, k8, k9, k10, k11, j3, k12, k13, k14, j4⟩ := hm
  obtain ⟨mb1, mc1, rfl, _, _⟩ := j1.1.shape
  obtain ⟨mb2, mc2, rfl, _, _⟩ := j2.1.shape
  obtain ⟨mb3, mc3, rfl, _, _⟩ := j3.1.shape
  obtain ⟨mb4, mc4, rfl, _, _⟩ := j4.1.shape
  have hxg : fits g.Txn.Node ∧ fits g.Txn.Life ∧ fits g.Txn.Count := ⟨k4, k5', k6⟩
  refine walk ?_
  refine ops_box rfl rfl fun p2 _ => ?_
  refine ops_box rfl rfl fun p3 _ => ?_
  refine ops_alloc rfl fun p4 _ => ?_
  by_cases hf : forCR m g
  case neg =>
    by_cases e1 : g.To = m.Node
    · have e2 : ¬ g.Txn.Node = m.Node := fun e => hf ⟨e1, e⟩
      refine walk ?_
      refine fin0 ?_
      exact ⟨_, _, _, _, _, [], [], [], rfl, ⟨_, rfl, f1, f2, f3, hs1⟩, SlB.nil, SlB.nil, SlB.nil, (.off hf), rfl⟩
    · skip
      refine walk ?_
      refine fin0 ?_
      exact ⟨_, _, _, _, _, [], [], [], rfl, ⟨_, rfl, f1, f2, f3, hs1⟩, SlB.nil, SlB.nil, SlB.nil, (.off hf), rfl⟩
  obtain ⟨e1, e2⟩ := id hf
  refine walk ?_
  refine ops_call rfl rfl (rAtC_spec (x := g.Txn) (m := m) (c := m.cv (.slice b1 m.Txns.length c1)) ⟨_, rfl, f1, f2, f3, hs1⟩) fun r7 H7 B hl7 ⟨hr7, eB, eH⟩ => ?_
  subst eB
  obtain rfl : H = H7 := eH.symm
  clear hl7 eH
  rcases hr7 with ⟨rfl, hno⟩ | ⟨j, hj, rfl, hx⟩
  · by_cases k5 : g.Kind = 5
    · skip
      refine walk ?_
      refine ex_any 12 [row p2 35 (m.cv (.slice b1 m.Txns.length c1)), row p3 53 (g.cv (.slice mb1 g.Work.Take.length mc1) (.slice mb2 g.Work.Drop.length mc2) (.slice mb3 g.Call.Route.Cells.length mc3) (.slice mb4 g.Reply.Route.Cells.length mc4))] ?_
      refine stepY 0 ?_; refine stepY 1 ?_; refine stepY 2 ?_; refine stepY 3 ?_; refine stepY 4 ?_; refine stepY 5 ?_; refine stepY 6 ?_; refine stepY 7 ?_; refine stepY 8 ?_; refine stepY 9 ?_
      refine any_ws 10 11 rfl rfl (op_bs1 rfl rfl rfl fun b9 => ⟨.refl _, (by (repeat (first | exact Sub.refl _ | exact Sub.nil _ | (apply sub_pick; (repeat (first | exact Has.here | apply Has.there)); skip) | apply Sub.drop))), ?_⟩) rfl rfl rfl (by simp) rfl ⟨(by (repeat (first | exact Sub.refl _ | exact Sub.nil _ | (apply sub_pick; (repeat (first | exact Has.here | apply Has.there)); skip) | apply Sub.drop))), ?_⟩
      · refine any_sta 11 rfl rfl rfl rfl (by simp) rfl ⟨(by (repeat (first | exact Sub.refl _ | exact Sub.nil _ | (apply sub_pick; (repeat (first | exact Has.here | apply Has.there)); skip) | apply Sub.drop))), ?_⟩
        refine any_rest rfl ?_
        refine walk ?_
        refine out_L (L' := ownS rMessage 19 216 53 H (.slice (some ⟨b9, 0, none⟩) 1 1) [decM m.Node g.Txn g.From false] :: row p4 35 (m.cv (.slice b1 m.Txns.length c1)) :: R) ?_ ?_
        · refine Sub.trans ?_ (own1 (x := decM m.Node g.Txn g.From false) (decM_reads f1 k1 hxg) c216)
          (repeat (first | exact Sub.refl _ | exact Sub.nil _ | (apply sub_pick; (repeat (first | exact Has.here | apply Has.there)); skip) | apply Sub.drop))
        refine out_freeze (.slice (some ⟨b9, 0, none⟩) 1 1) fun H9 hl9 hsm => ?_
        refine fin0 ?_
        exact ⟨_, _, _, _, _, _, [], [], rfl, ⟨_, rfl, f1, f2, f3, hs1.mono hl9⟩, hsm, SlB.nil, SlB.nil, (.ask hf k5 (fun t ht hx => absurd hx (hno t ht)) false ⟨fun h => (by cases h), fun ⟨t, ht, hx⟩ => absurd hx (hno t ht)⟩), rfl⟩
      · refine any_w 10 rfl (op_bs1 rfl rfl rfl fun b9 => ⟨.refl _, (by (repeat (first | exact Sub.refl _ | exact Sub.nil _ | (apply sub_pick; (repeat (first | exact Has.here | apply Has.there)); skip) | apply Sub.drop))), ?_⟩)
        refine any_rest rfl ?_
        refine walk ?_
        refine out_L (L' := ownS rMessage 19 216 53 H (.slice (some ⟨b9, 0, none⟩) 1 1) [decM m.Node g.Txn g.From false] :: row p4 35 (m.cv (.slice b1 m.Txns.length c1)) :: R) ?_ ?_
        · refine Sub.trans ?_ (own1 (x := decM m.Node g.Txn g.From false) (decM_reads f1 k1 hxg) c216)
          (repeat (first | exact Sub.refl _ | exact Sub.nil _ | (apply sub_pick; (repeat (first | exact Has.here | apply Has.there)); skip) | apply Sub.drop))
        refine out_freeze (.slice (some ⟨b9, 0, none⟩) 1 1) fun H9 hl9 hsm => ?_
        refine fin0 ?_
        exact ⟨_, _, _, _, _, _, [], [], rfl, ⟨_, rfl, f1, f2, f3, hs1.mono hl9⟩, hsm, SlB.nil, SlB.nil, (.ask hf k5 (fun t ht hx => absurd hx (hno t ht)) false ⟨fun h => (by cases h), fun ⟨t, ht, hx⟩ => absurd hx (hno t ht)⟩), rfl⟩
    · skip
      refine walk ?_
      refine fin0 ?_
      exact ⟨_, _, _, _, _, [], [], [], rfl, ⟨_, rfl, f1, f2, f3, hs1⟩, SlB.nil, SlB.nil, SlB.nil, (.none hf k5 hno), rfl⟩
  have hj0 : (0 : Int) ≤ (j : Int) := by omega
  have hjn : ¬ (j : Int) < 0 := by omega
  have hjm : m.Txns[j] ∈ m.Txns := List.getElem_mem hj
  obtain ⟨okh, okw, okn⟩ := hok m.Txns[j] hjm
  have huq : ∀ t ∈ m.Txns, t.X = g.Txn → t = m.Txns[j] := fun t ht he => rise_uniq hri ht hjm (by rw [he, hx])
  obtain ⟨t, htj⟩ : ∃ t, m.Txns[j] = t := ⟨_, rfl⟩
  rw [htj] at hjm okh okw okn huq hx
  obtain ⟨⟨x1, x2, x3⟩, op, bg, ps, wk, hd⟩ := t
  by_cases k5 : g.Kind = 5
  · refine walk ?_
    refine ops_ixp rfl rfl hs1.1 hj fun b o cc hr hc => ?_
    rw [htj] at hc
    obtain ⟨u1, u2, u3, rfl, _⟩ := hc
    change HRow H b o [I x1, I x2, I x3, .bool op, I bg, u1, u2, u3] at hr
    cases op with
    | false =>
      refine walk ?_
      refine walk ?_
      refine fin0 ?_
      exact ⟨_, _, _, _, _, [], [], [], rfl, ⟨_, rfl, f1, f2, f3, hs1⟩, SlB.nil, SlB.nil, SlB.nil, (.askNo hf k5 _ hjm hx rfl), rfl⟩
    | true =>
      refine walk ?_
      refine walk ?_
      refine ex_any 12 [row p2 35 (m.cv (.slice b1 m.Txns.length c1)), row p3 53 (g.cv (.slice mb1 g.Work.Take.length mc1) (.slice mb2 g.Work.Drop.length mc2) (.slice mb3 g.Call.Route.Cells.length mc3) (.slice mb4 g.Reply.Route.Cells.length mc4))] ?_
      refine stepY 0 ?_; refine stepY 1 ?_; refine stepY 2 ?_; refine stepY 3 ?_; refine stepY 4 ?_; refine stepY 5 ?_; refine stepY 6 ?_; refine stepY 7 ?_; refine stepY 8 ?_; refine stepY 9 ?_
      refine any_ws 10 11 rfl rfl (op_bs1 rfl rfl rfl fun b9 => ⟨.refl _, (by (repeat (first | exact Sub.refl _ | exact Sub.nil _ | (apply sub_pick; (repeat (first | exact Has.here | apply Has.there)); skip) | apply Sub.drop))), ?_⟩) rfl rfl rfl (by simp) rfl ⟨(by (repeat (first | exact Sub.refl _ | exact Sub.nil _ | (apply sub_pick; (repeat (first | exact Has.here | apply Has.there)); skip) | apply Sub.drop))), ?_⟩
      · refine any_sta 11 rfl rfl rfl rfl (by simp) rfl ⟨(by (repeat (first | exact Sub.refl _ | exact Sub.nil _ | (apply sub_pick; (repeat (first | exact Has.here | apply Has.there)); skip) | apply Sub.drop))), ?_⟩
        refine any_rest rfl ?_
        refine walk ?_
        refine out_L (L' := ownS rMessage 19 216 53 H (.slice (some ⟨b9, 0, none⟩) 1 1) [decM m.Node g.Txn g.From true] :: row p4 35 (m.cv (.slice b1 m.Txns.length c1)) :: R) ?_ ?_
        · refine Sub.trans ?_ (own1 (x := decM m.Node g.Txn g.From true) (decM_reads f1 k1 hxg) c216)
          (repeat (first | exact Sub.refl _ | exact Sub.nil _ | (apply sub_pick; (repeat (first | exact Has.here | apply Has.there)); skip) | apply Sub.drop))
        refine out_freeze (.slice (some ⟨b9, 0, none⟩) 1 1) fun H9 hl9 hsm => ?_
        refine fin0 ?_
        exact ⟨_, _, _, _, _, _, [], [], rfl, ⟨_, rfl, f1, f2, f3, hs1.mono hl9⟩, hsm, SlB.nil, SlB.nil, (.ask hf k5 (fun t ht he => by rw [huq t ht he]) true ⟨fun _ => ⟨_, hjm, hx⟩, fun _ => rfl⟩), rfl⟩
      · refine any_w 10 rfl (op_bs1 rfl rfl rfl fun b9 => ⟨.refl _, (by (repeat (first | exact Sub.refl _ | exact Sub.nil _ | (apply sub_pick; (repeat (first | exact Has.here | apply Has.there)); skip) | apply Sub.drop))), ?_⟩)
        refine any_rest rfl ?_
        refine walk ?_
        refine out_L (L' := ownS rMessage 19 216 53 H (.slice (some ⟨b9, 0, none⟩) 1 1) [decM m.Node g.Txn g.From true] :: row p4 35 (m.cv (.slice b1 m.Txns.length c1)) :: R) ?_ ?_
        · refine Sub.trans ?_ (own1 (x := decM m.Node g.Txn g.From true) (decM_reads f1 k1 hxg) c216)
          (repeat (first | exact Sub.refl _ | exact Sub.nil _ | (apply sub_pick; (repeat (first | exact Has.here | apply Has.there)); skip) | apply Sub.drop))
        refine out_freeze (.slice (some ⟨b9, 0, none⟩) 1 1) fun H9 hl9 hsm => ?_
        refine fin0 ?_
        exact ⟨_, _, _, _, _, _, [], [], rfl, ⟨_, rfl, f1, f2, f3, hs1.mono hl9⟩, hsm, SlB.nil, SlB.nil, (.ask hf k5 (fun t ht he => by rw [huq t ht he]) true ⟨fun _ => ⟨_, hjm, hx⟩, fun _ => rfl⟩), rfl⟩
  refine walk ?_
  refine ops_ixp rfl rfl hs1.1 hj fun b o cc hr hc => ?_
  rw [htj] at hc
  obtain ⟨u1, u2, u3, rfl, q1, q2, q3, q4, q5, q6, q7⟩ := hc
  obtain ⟨e1, d1, rfl, he1, hd1'⟩ := q5.1.shape
  obtain ⟨e2, d2, rfl, he2, hd2⟩ := q6.1.shape
  obtain ⟨e3, d3, rfl, he3, hd3⟩ := q7.1.shape
  change HRow H b o [I x1, I x2, I x3, .bool op, I bg, .slice e1 ps.length d1, .slice e2 wk.length d2, .slice e3 hd.length d3] at hr
  have okh' : hd.length = ps.length := okh
  have okn' : ps.length ≤ 1000000 := okn
  have hx' : (⟨x1, x2, x3⟩ : Txn) = g.Txn := hx
  have hsl : SlR rInt 1 H (.slice e1 ps.length d1) ps := q5.1
  have hsh : SlR rBool 1 H (.slice e3 hd.length d3) hd := q7.1
  refine walk ?_
  refine ops_ldNH rfl rfl hr rfl ?_
  refine walk ?_
  refine ops_alloc rfl fun p9 _ => ?_
  refine walk ?_
  refine ex_loop (σ := Nat × Int × Bool) (fun u => u.1 ≤ ps.length ∧ HU ps hd g.From u.1 u.2.1 u.2.2) (fun u => [(2, .pointer (some ⟨p2, 0, none⟩)), (3, .pointer (some ⟨p3, 0, none⟩)), (4, .pointer (some ⟨p4, 0, none⟩)), (5, nilS), (6, nilS), (7, nilS), (9, .pointer (some ⟨p9, 0, none⟩)), (10, I u.2.1), (11, .bool u.2.2), (12, I u.1)]) (fun _ => H)
    (fun u => row p9 98 [I x1, I x2, I x3, .bool op, I bg, .slice e1 ps.length d1, .slice e2 wk.length d2, .slice e3 hd.length d3] :: row p4 35 [I 0, I 0, I 0, nilS] :: row p3 53 (g.cv (.slice mb1 g.Work.Take.length mc1) (.slice mb2 g.Work.Drop.length mc2) (.slice mb3 g.Call.Route.Cells.length mc3) (.slice mb4 g.Reply.Route.Cells.length mc4)) :: row p2 35 (m.cv (.slice b1 m.Txns.length c1)) :: R) (fun u => ps.length - u.1) (0, -1, true) ⟨Nat.zero_le _, HU.start⟩ fun ⟨k, part, all⟩ ⟨hk0, hu⟩ K hL => ?_
  simp only at hk0 hu
  dsimp only
  refine walk ?_
  refine ex_if rfl (fun hk => ?_) (fun hk => ?_)
  · have hk1 : k < ps.length := by omega
    have hk2 : k < hd.length := by omega
    have hge : hd[k]?.getD false = hd[k] := by rw [List.getElem?_eq_getElem hk2]; rfl
    refine walk ?_
    refine ex_if rfl (fun he => ?_) (fun he => ?_)
    · have hnu := hu.yes hk1 he
      refine walk ?_
      exact out_next hL (k + 1, (k : Int), all) ⟨by simp only; omega, hnu⟩
    · cases all with
      | false =>
        have hnu := hu.no (all' := false) hk1 he (by simp)
        refine walk ?_
        exact out_next hL (k + 1, part, false) ⟨by simp only; omega, hnu⟩
      | true =>
        have hnu := hu.no (all' := hd[k]) hk1 he (by simp [hge])
        refine walk ?_
        exact out_next hL (k + 1, part, hd[k]) ⟨by simp only; omega, hnu⟩
  clear hL
  obtain rfl : k = ps.length := by omega
  have hcT : ∀ {H' : Heap}, H.le H' → rC16 H' [I x1, I x2, I x3, .bool op, I bg, .slice e1 ps.length d1, .slice e2 wk.length d2, .slice e3 hd.length d3] ⟨⟨x1, x2, x3⟩, op, bg, ps, wk, hd⟩ := fun h => ⟨_, _, _, rfl, q1, q2, q3, q4, q5.mono h, q6.mono h, q7.mono h⟩
  rcases hu.1 with ⟨rfl, hno⟩ | ⟨i, hi, _, rfl, hpi⟩
  · have hpn : g.From ∉ ps := fun h => by
      obtain ⟨i, hi, e⟩ := List.getElem_of_mem h
      exact hno i hi hi e
    refine walk ?_
    refine walk ?_
    refine fin0 ?_
    exact ⟨_, _, _, _, _, [], [], [], rfl, ⟨_, rfl, f1, f2, f3, hs1⟩, SlB.nil, SlB.nil, SlB.nil, (.nopart hf k5 _ hjm hx (.inl hpn)), rfl⟩
  have hin : ¬ (i : Int) < 0 := by omega
  have hin0 : (0 : Int) ≤ (i : Int) := by omega
  have hpm : g.From ∈ ps := by rw [← hpi]; exact List.getElem_mem hi
  cases op with
  | true =>
    by_cases k4 : g.Kind = 4
    · refine walk ?_
      refine ops_mk0 (w := 1) rBool rfl fun b5 => ?_
      refine walk ?_
      refine ops_appS rfl rfl hsh (by simp only [cap47, List.length_nil]; omega) fun d5 c5 => ?_
      rw [List.nil_append, List.length_nil, Nat.zero_add]
      refine walk ?_
      refine ops_stS (y' := true) rfl rfl rfl rfl (show i < hd.length by omega) ?_
      refine walk ?_
      cases all with
      | false =>
        have hna : ¬ othersR ⟨⟨x1, x2, x3⟩, true, bg, ps, wk, hd⟩ g.From := fun h => by
          have := hu.2.2 fun i hi _ hne => h i hi hne
          cases this
        refine ex_ifb rfl (show (!false) = true ↔ True by simp) (fun _ => ?_) (fun h => absurd trivial h)
        refine walk ?_
        refine ops_freeze (.slice d5 hd.length c5) fun H6 hl6 hsd => ?_
        have hrt : rC16 H6 [I x1, I x2, I x3, .bool true, I bg, .slice e1 ps.length d1, .slice e2 wk.length d2, .slice d5 hd.length c5] (markR ⟨⟨x1, x2, x3⟩, true, bg, ps, wk, hd⟩ i) := ⟨_, _, _, rfl, q1, q2, q3, q4, q5.mono hl6, q6.mono hl6, hsd⟩
        refine ops_call rfl rfl (rPutC_spec (W0 := W0) (H := H6) (t := markR ⟨⟨x1, x2, x3⟩, true, bg, ps, wk, hd⟩ i) (l := m.Txns) (hs1.mono hl6) hrt (by omega)) fun r7 H7 B hl7 ⟨eB, eH⟩ => ?_
        subst eB eH
        refine ops_freeze r7 fun H8 hl8 hsp => ?_
        obtain ⟨bp, cp, rfl, _, _⟩ := hsp.1.shape
        refine walk ?_
        refine fin0 ?_
        exact ⟨_, { m with Txns := putR (markR ⟨⟨x1, x2, x3⟩, true, bg, ps, wk, hd⟩ i) m.Txns }, _, _, _, [], [], [], rfl, ⟨_, rfl, f1, f2, f3, hsp⟩, SlB.nil, SlB.nil, SlB.nil, .some hf _ hjm hx (.inl ⟨rfl, k4⟩) i hi hpi hna, rfl⟩
      | true =>
        have hall : othersR ⟨⟨x1, x2, x3⟩, true, bg, ps, wk, hd⟩ g.From := fun i hi hne => hu.2.1 rfl i hi hi hne
        refine ex_ifb rfl (show (!true) = true ↔ False by simp) (fun h => h.elim) (fun _ => ?_)
        refine walk ?_
        have hct : RCHear m g { m with Txns := cutR g.Txn m.Txns } [] [recE g.Txn] [ocR g.Txn true true] := .over hf _ hjm hx rfl k4 hpm hall
        rw [← hx'] at hct
        refine ex_any 15 [row p9 98 [I x1, I x2, I x3, .bool true, I bg, .slice e1 ps.length d1, .slice e2 wk.length d2, .slice d5 hd.length c5], row p2 35 (m.cv (.slice b1 m.Txns.length c1))] ?_
        refine stepY 0 ?_; refine stepY 1 ?_; refine stepY 2 ?_; refine stepY 4 ?_; refine stepY 5 ?_; refine stepY 8 ?_; refine stepY 9 ?_
        refine gny_bld 6 rfl rfl rfl ?_
        refine gny_bld 10 rfl rfl rfl ?_
        refine any_3 3 7 11 (at_call 3 rfl rfl (rWithout_spec (W0 := W0) (H := H) (m := m) (x := ⟨x1, x2, x3⟩) (c := m.cv (.slice b1 m.Txns.length c1)) ⟨_, rfl, f1, f2, f3, hs1⟩ (by omega)) fun r3 H3 B hl3 ⟨c', er, hc', eB⟩ => ?c7) (at_w 7 rfl (op_bs1 rfl rfl rfl fun b7 => ⟨(by first | exact Go.Sx.Heap.le.refl _ | exact hl3), (by (repeat (first | exact Sub.refl _ | exact Sub.nil _ | (apply sub_pick; (repeat (first | exact Has.here | apply Has.there)); skip) | apply Sub.drop))), ?c8⟩)) (at_w 11 rfl (op_bs1 rfl rfl rfl fun b11 => ⟨(by first | exact Go.Sx.Heap.le.refl _ | exact hl3), (by (repeat (first | exact Sub.refl _ | exact Sub.nil _ | (apply sub_pick; (repeat (first | exact Has.here | apply Has.there)); skip) | apply Sub.drop))), ?c9⟩))
        case c7 =>
          subst er eB
          obtain ⟨s', rfl, _, _, _, hs'⟩ := hc'
          obtain ⟨bq, cq, rfl, _, _⟩ := hs'.1.shape
          refine ⟨(by (repeat (first | exact Sub.refl _ | exact Sub.nil _ | (apply sub_pick; (repeat (first | exact Has.here | apply Has.there)); skip) | apply Sub.drop))), ?_⟩
          refine any_3 7 11 12 (at_w 7 rfl (op_bs1 rfl rfl rfl fun b7 => ⟨(by first | exact Go.Sx.Heap.le.refl _ | exact hl3), (by (repeat (first | exact Sub.refl _ | exact Sub.nil _ | (apply sub_pick; (repeat (first | exact Has.here | apply Has.there)); skip) | apply Sub.drop))), ?c10⟩)) (at_w 11 rfl (op_bs1 rfl rfl rfl fun b11 => ⟨(by first | exact Go.Sx.Heap.le.refl _ | exact hl3), (by (repeat (first | exact Sub.refl _ | exact Sub.nil _ | (apply sub_pick; (repeat (first | exact Has.here | apply Has.there)); skip) | apply Sub.drop))), ?c11⟩)) (at_s 12 rfl rfl rfl rfl (by simp) rfl ⟨(by (repeat (first | exact Sub.refl _ | exact Sub.nil _ | (apply sub_pick; (repeat (first | exact Has.here | apply Has.there)); skip) | apply Sub.drop))), ?c12⟩)
          case c10 =>
            skip
            refine any_2 11 12 (at_w 11 rfl (op_bs1 rfl rfl rfl fun b11 => ⟨(by first | exact Go.Sx.Heap.le.refl _ | exact hl3), (by (repeat (first | exact Sub.refl _ | exact Sub.nil _ | (apply sub_pick; (repeat (first | exact Has.here | apply Has.there)); skip) | apply Sub.drop))), ?c13⟩)) (at_s 12 rfl rfl rfl rfl (by simp) rfl ⟨(by (repeat (first | exact Sub.refl _ | exact Sub.nil _ | (apply sub_pick; (repeat (first | exact Has.here | apply Has.there)); skip) | apply Sub.drop))), ?c14⟩)
            case c13 =>
              skip
              refine any_sta 12 rfl rfl rfl rfl (by simp) rfl ⟨(by (repeat (first | exact Sub.refl _ | exact Sub.nil _ | (apply sub_pick; (repeat (first | exact Has.here | apply Has.there)); skip) | apply Sub.drop))), ?_⟩
              refine stepY 13 ?_
              refine stepY 14 ?_
              refine any_rest rfl ?_
              refine walk ?_
              refine out_L (L' := ownS rO16 5 32 133 H3 (.slice (some ⟨b11, 0, none⟩) 1 1) [ocR ⟨x1, x2, x3⟩ true true] :: row b7 63 [I 5, I x1, I x2, I x3, I 0, nilS, nilS, .bool false, nilS] :: row p4 35 [I m.Node, I m.Life, I m.Count, .slice bq (cutR ⟨x1, x2, x3⟩ m.Txns).length cq] :: R) ?_ ?_
              · refine Sub.trans ?_ (own1 (x := ocR ⟨x1, x2, x3⟩ true true) ⟨rfl, q1, q2, q3⟩ c32)
                (repeat (first | exact Sub.refl _ | exact Sub.nil _ | (apply sub_pick; (repeat (first | exact Has.here | apply Has.there)); skip) | apply Sub.drop))
              refine out_freeze (.slice (some ⟨b11, 0, none⟩) 1 1) fun H7 hl7 hso => ?_
              refine out_L (L' := ownS rRec 9 120 63 H7 (.slice (some ⟨b7, 0, none⟩) 1 1) [recE ⟨x1, x2, x3⟩] :: row p4 35 [I m.Node, I m.Life, I m.Count, .slice bq (cutR ⟨x1, x2, x3⟩ m.Txns).length cq] :: R) ?_ ?_
              · refine Sub.trans ?_ (own1 (x := recE ⟨x1, x2, x3⟩) (recE_reads ⟨q1, q2, q3⟩) c120)
                (repeat (first | exact Sub.refl _ | exact Sub.nil _ | (apply sub_pick; (repeat (first | exact Has.here | apply Has.there)); skip) | apply Sub.drop))
              refine out_freeze (.slice (some ⟨b7, 0, none⟩) 1 1) fun H8 hl8 hsr => ?_
              refine fin0 ?_
              exact ⟨_, { m with Txns := cutR ⟨x1, x2, x3⟩ m.Txns }, _, _, _, [], _, _, rfl, ⟨_, rfl, f1, f2, f3, hs'.mono (hl7.trans hl8)⟩, SlB.nil, hsr, hso.mono hl8, hct, rfl⟩
            case c14 =>
              skip
              refine stepY 13 ?_
              refine stepY 14 ?_
              refine any_w 11 rfl (op_bs1 rfl rfl rfl fun b11 => ⟨(by first | exact Go.Sx.Heap.le.refl _ | exact hl3), (by (repeat (first | exact Sub.refl _ | exact Sub.nil _ | (apply sub_pick; (repeat (first | exact Has.here | apply Has.there)); skip) | apply Sub.drop))), ?_⟩)
              refine any_rest rfl ?_
              refine walk ?_
              refine out_L (L' := ownS rO16 5 32 133 H3 (.slice (some ⟨b11, 0, none⟩) 1 1) [ocR ⟨x1, x2, x3⟩ true true] :: row b7 63 [I 5, I x1, I x2, I x3, I 0, nilS, nilS, .bool false, nilS] :: row p4 35 [I m.Node, I m.Life, I m.Count, .slice bq (cutR ⟨x1, x2, x3⟩ m.Txns).length cq] :: R) ?_ ?_
              · refine Sub.trans ?_ (own1 (x := ocR ⟨x1, x2, x3⟩ true true) ⟨rfl, q1, q2, q3⟩ c32)
                (repeat (first | exact Sub.refl _ | exact Sub.nil _ | (apply sub_pick; (repeat (first | exact Has.here | apply Has.there)); skip) | apply Sub.drop))
              refine out_freeze (.slice (some ⟨b11, 0, none⟩) 1 1) fun H7 hl7 hso => ?_
              refine out_L (L' := ownS rRec 9 120 63 H7 (.slice (some ⟨b7, 0, none⟩) 1 1) [recE ⟨x1, x2, x3⟩] :: row p4 35 [I m.Node, I m.Life, I m.Count, .slice bq (cutR ⟨x1, x2, x3⟩ m.Txns).length cq] :: R) ?_ ?_
              · refine Sub.trans ?_ (own1 (x := recE ⟨x1, x2, x3⟩) (recE_reads ⟨q1, q2, q3⟩) c120)
                (repeat (first | exact Sub.refl _ | exact Sub.nil _ | (apply sub_pick; (repeat (first | exact Has.here | apply Has.there)); skip) | apply Sub.drop))
              refine out_freeze (.slice (some ⟨b7, 0, none⟩) 1 1) fun H8 hl8 hsr => ?_
              refine fin0 ?_
              exact ⟨_, { m with Txns := cutR ⟨x1, x2, x3⟩ m.Txns }, _, _, _, [], _, _, rfl, ⟨_, rfl, f1, f2, f3, hs'.mono (hl7.trans hl8)⟩, SlB.nil, hsr, hso.mono hl8, hct, rfl⟩
          case c11 =>
            skip
            refine any_2 7 12 (at_w 7 rfl (op_bs1 rfl rfl rfl fun b7 => ⟨(by first | exact Go.Sx.Heap.le.refl _ | exact hl3), (by (repeat (first | exact Sub.refl _ | exact Sub.nil _ | (apply sub_pick; (repeat (first | exact Has.here | apply Has.there)); skip) | apply Sub.drop))), ?c15⟩)) (at_s 12 rfl rfl rfl rfl (by simp) rfl ⟨(by (repeat (first | exact Sub.refl _ | exact Sub.nil _ | (apply sub_pick; (repeat (first | exact Has.here | apply Has.there)); skip) | apply Sub.drop))), ?c16⟩)
            case c15 =>
              skip
              refine any_sta 12 rfl rfl rfl rfl (by simp) rfl ⟨(by (repeat (first | exact Sub.refl _ | exact Sub.nil _ | (apply sub_pick; (repeat (first | exact Has.here | apply Has.there)); skip) | apply Sub.drop))), ?_⟩
              refine stepY 13 ?_
              refine stepY 14 ?_
              refine any_rest rfl ?_
              refine walk ?_
              refine out_L (L' := ownS rO16 5 32 133 H3 (.slice (some ⟨b11, 0, none⟩) 1 1) [ocR ⟨x1, x2, x3⟩ true true] :: row b7 63 [I 5, I x1, I x2, I x3, I 0, nilS, nilS, .bool false, nilS] :: row p4 35 [I m.Node, I m.Life, I m.Count, .slice bq (cutR ⟨x1, x2, x3⟩ m.Txns).length cq] :: R) ?_ ?_
              · refine Sub.trans ?_ (own1 (x := ocR ⟨x1, x2, x3⟩ true true) ⟨rfl, q1, q2, q3⟩ c32)
                (repeat (first | exact Sub.refl _ | exact Sub.nil _ | (apply sub_pick; (repeat (first | exact Has.here | apply Has.there)); skip) | apply Sub.drop))
              refine out_freeze (.slice (some ⟨b11, 0, none⟩) 1 1) fun H7 hl7 hso => ?_
              refine out_L (L' := ownS rRec 9 120 63 H7 (.slice (some ⟨b7, 0, none⟩) 1 1) [recE ⟨x1, x2, x3⟩] :: row p4 35 [I m.Node, I m.Life, I m.Count, .slice bq (cutR ⟨x1, x2, x3⟩ m.Txns).length cq] :: R) ?_ ?_
              · refine Sub.trans ?_ (own1 (x := recE ⟨x1, x2, x3⟩) (recE_reads ⟨q1, q2, q3⟩) c120)
                (repeat (first | exact Sub.refl _ | exact Sub.nil _ | (apply sub_pick; (repeat (first | exact Has.here | apply Has.there)); skip) | apply Sub.drop))
              refine out_freeze (.slice (some ⟨b7, 0, none⟩) 1 1) fun H8 hl8 hsr => ?_
              refine fin0 ?_
              exact ⟨_, { m with Txns := cutR ⟨x1, x2, x3⟩ m.Txns }, _, _, _, [], _, _, rfl, ⟨_, rfl, f1, f2, f3, hs'.mono (hl7.trans hl8)⟩, SlB.nil, hsr, hso.mono hl8, hct, rfl⟩
            case c16 =>
              skip
              refine stepY 13 ?_
              refine any_w 7 rfl (op_bs1 rfl rfl rfl fun b7 => ⟨(by first | exact Go.Sx.Heap.le.refl _ | exact hl3), (by (repeat (first | exact Sub.refl _ | exact Sub.nil _ | (apply sub_pick; (repeat (first | exact Has.here | apply Has.there)); skip) | apply Sub.drop))), ?_⟩)
              refine stepY 14 ?_
              refine any_rest rfl ?_
              refine walk ?_
              refine out_L (L' := ownS rO16 5 32 133 H3 (.slice (some ⟨b11, 0, none⟩) 1 1) [ocR ⟨x1, x2, x3⟩ true true] :: row b7 63 [I 5, I x1, I x2, I x3, I 0, nilS, nilS, .bool false, nilS] :: row p4 35 [I m.Node, I m.Life, I m.Count, .slice bq (cutR ⟨x1, x2, x3⟩ m.Txns).length cq] :: R) ?_ ?_
              · refine Sub.trans ?_ (own1 (x := ocR ⟨x1, x2, x3⟩ true true) ⟨rfl, q1, q2, q3⟩ c32)
                (repeat (first | exact Sub.refl _ | exact Sub.nil _ | (apply sub_pick; (repeat (first | exact Has.here | apply Has.there)); skip) | apply Sub.drop))
              refine out_freeze (.slice (some ⟨b11, 0, none⟩) 1 1) fun H7 hl7 hso => ?_
              refine out_L (L' := ownS rRec 9 120 63 H7 (.slice (some ⟨b7, 0, none⟩) 1 1) [recE ⟨x1, x2, x3⟩] :: row p4 35 [I m.Node, I m.Life, I m.Count, .slice bq (cutR ⟨x1, x2, x3⟩ m.Txns).length cq] :: R) ?_ ?_
              · refine Sub.trans ?_ (own1 (x := recE ⟨x1, x2, x3⟩) (recE_reads ⟨q1, q2, q3⟩) c120)
                (repeat (first | exact Sub.refl _ | exact Sub.nil _ | (apply sub_pick; (repeat (first | exact Has.here | apply Has.there)); skip) | apply Sub.drop))
              refine out_freeze (.slice (some ⟨b7, 0, none⟩) 1 1) fun H8 hl8 hsr => ?_
              refine fin0 ?_
              exact ⟨_, { m with Txns := cutR ⟨x1, x2, x3⟩ m.Txns }, _, _, _, [], _, _, rfl, ⟨_, rfl, f1, f2, f3, hs'.mono (hl7.trans hl8)⟩, SlB.nil, hsr, hso.mono hl8, hct, rfl⟩
          case c12 =>
            skip
            refine stepY 13 ?_
            refine any_2 7 11 (at_w 7 rfl (op_bs1 rfl rfl rfl fun b7 => ⟨(by first | exact Go.Sx.Heap.le.refl _ | exact hl3), (by (repeat (first | exact Sub.refl _ | exact Sub.nil _ | (apply sub_pick; (repeat (first | exact Has.here | apply Has.there)); skip) | apply Sub.drop))), ?c17⟩)) (at_w 11 rfl (op_bs1 rfl rfl rfl fun b11 => ⟨(by first | exact Go.Sx.Heap.le.refl _ | exact hl3), (by (repeat (first | exact Sub.refl _ | exact Sub.nil _ | (apply sub_pick; (repeat (first | exact Has.here | apply Has.there)); skip) | apply Sub.drop))), ?c18⟩))
            case c17 =>
              skip
              refine stepY 14 ?_
              refine any_w 11 rfl (op_bs1 rfl rfl rfl fun b11 => ⟨(by first | exact Go.Sx.Heap.le.refl _ | exact hl3), (by (repeat (first | exact Sub.refl _ | exact Sub.nil _ | (apply sub_pick; (repeat (first | exact Has.here | apply Has.there)); skip) | apply Sub.drop))), ?_⟩)
              refine any_rest rfl ?_
              refine walk ?_
              refine out_L (L' := ownS rO16 5 32 133 H3 (.slice (some ⟨b11, 0, none⟩) 1 1) [ocR ⟨x1, x2, x3⟩ true true] :: row b7 63 [I 5, I x1, I x2, I x3, I 0, nilS, nilS, .bool false, nilS] :: row p4 35 [I m.Node, I m.Life, I m.Count, .slice bq (cutR ⟨x1, x2, x3⟩ m.Txns).length cq] :: R) ?_ ?_
              · refine Sub.trans ?_ (own1 (x := ocR ⟨x1, x2, x3⟩ true true) ⟨rfl, q1, q2, q3⟩ c32)
                (repeat (first | exact Sub.refl _ | exact Sub.nil _ | (apply sub_pick; (repeat (first | exact Has.here | apply Has.there)); skip) | apply Sub.drop))
              refine out_freeze (.slice (some ⟨b11, 0, none⟩) 1 1) fun H7 hl7 hso => ?_
              refine out_L (L' := ownS rRec 9 120 63 H7 (.slice (some ⟨b7, 0, none⟩) 1 1) [recE ⟨x1, x2, x3⟩] :: row p4 35 [I m.Node, I m.Life, I m.Count, .slice bq (cutR ⟨x1, x2, x3⟩ m.Txns).length cq] :: R) ?_ ?_
              · refine Sub.trans ?_ (own1 (x := recE ⟨x1, x2, x3⟩) (recE_reads ⟨q1, q2, q3⟩) c120)
                (repeat (first | exact Sub.refl _ | exact Sub.nil _ | (apply sub_pick; (repeat (first | exact Has.here | apply Has.there)); skip) | apply Sub.drop))
              refine out_freeze (.slice (some ⟨b7, 0, none⟩) 1 1) fun H8 hl8 hsr => ?_
              refine fin0 ?_
              exact ⟨_, { m with Txns := cutR ⟨x1, x2, x3⟩ m.Txns }, _, _, _, [], _, _, rfl, ⟨_, rfl, f1, f2, f3, hs'.mono (hl7.trans hl8)⟩, SlB.nil, hsr, hso.mono hl8, hct, rfl⟩
            case c18 =>
              skip
              refine any_w 7 rfl (op_bs1 rfl rfl rfl fun b7 => ⟨(by first | exact Go.Sx.Heap.le.refl _ | exact hl3), (by (repeat (first | exact Sub.refl _ | exact Sub.nil _ | (apply sub_pick; (repeat (first | exact Has.here | apply Has.there)); skip) | apply Sub.drop))), ?_⟩)
              refine stepY 14 ?_
              refine any_rest rfl ?_
              refine walk ?_
              refine out_L (L' := ownS rO16 5 32 133 H3 (.slice (some ⟨b11, 0, none⟩) 1 1) [ocR ⟨x1, x2, x3⟩ true true] :: row b7 63 [I 5, I x1, I x2, I x3, I 0, nilS, nilS, .bool false, nilS] :: row p4 35 [I m.Node, I m.Life, I m.Count, .slice bq (cutR ⟨x1, x2, x3⟩ m.Txns).length cq] :: R) ?_ ?_
              · refine Sub.trans ?_ (own1 (x := ocR ⟨x1, x2, x3⟩ true true) ⟨rfl, q1, q2, q3⟩ c32)
                (repeat (first | exact Sub.refl _ | exact Sub.nil _ | (apply sub_pick; (repeat (first | exact Has.here | apply Has.there)); skip) | apply Sub.drop))
              refine out_freeze (.slice (some ⟨b11, 0, none⟩) 1 1) fun H7 hl7 hso => ?_
              refine out_L (L' := ownS rRec 9 120 63 H7 (.slice (some ⟨b7, 0, none⟩) 1 1) [recE ⟨x1, x2, x3⟩] :: row p4 35 [I m.Node, I m.Life, I m.Count, .slice bq (cutR ⟨x1, x2, x3⟩ m.Txns).length cq] :: R) ?_ ?_
              · refine Sub.trans ?_ (own1 (x := recE ⟨x1, x2, x3⟩) (recE_reads ⟨q1, q2, q3⟩) c120)
                (repeat (first | exact Sub.refl _ | exact Sub.nil _ | (apply sub_pick; (repeat (first | exact Has.here | apply Has.there)); skip) | apply Sub.drop))
              refine out_freeze (.slice (some ⟨b7, 0, none⟩) 1 1) fun H8 hl8 hsr => ?_
              refine fin0 ?_
              exact ⟨_, { m with Txns := cutR ⟨x1, x2, x3⟩ m.Txns }, _, _, _, [], _, _, rfl, ⟨_, rfl, f1, f2, f3, hs'.mono (hl7.trans hl8)⟩, SlB.nil, hsr, hso.mono hl8, hct, rfl⟩
        case c8 =>
          skip
          refine any_2 3 11 (at_call 3 rfl rfl (rWithout_spec (W0 := W0) (H := H) (m := m) (x := ⟨x1, x2, x3⟩) (c := m.cv (.slice b1 m.Txns.length c1)) ⟨_, rfl, f1, f2, f3, hs1⟩ (by omega)) fun r3 H3 B hl3 ⟨c', er, hc', eB⟩ => ?c19) (at_w 11 rfl (op_bs1 rfl rfl rfl fun b11 => ⟨(by first | exact Go.Sx.Heap.le.refl _ | exact hl3), (by (repeat (first | exact Sub.refl _ | exact Sub.nil _ | (apply sub_pick; (repeat (first | exact Has.here | apply Has.there)); skip) | apply Sub.drop))), ?c20⟩))
          case c19 =>
            subst er eB
            obtain ⟨s', rfl, _, _, _, hs'⟩ := hc'
            obtain ⟨bq, cq, rfl, _, _⟩ := hs'.1.shape
            refine ⟨(by (repeat (first | exact Sub.refl _ | exact Sub.nil _ | (apply sub_pick; (repeat (first | exact Has.here | apply Has.there)); skip) | apply Sub.drop))), ?_⟩
            refine any_2 11 12 (at_w 11 rfl (op_bs1 rfl rfl rfl fun b11 => ⟨(by first | exact Go.Sx.Heap.le.refl _ | exact hl3), (by (repeat (first | exact Sub.refl _ | exact Sub.nil _ | (apply sub_pick; (repeat (first | exact Has.here | apply Has.there)); skip) | apply Sub.drop))), ?c21⟩)) (at_s 12 rfl rfl rfl rfl (by simp) rfl ⟨(by (repeat (first | exact Sub.refl _ | exact Sub.nil _ | (apply sub_pick; (repeat (first | exact Has.here | apply Has.there)); skip) | apply Sub.drop))), ?c22⟩)
            case c21 =>
              skip
              refine any_sta 12 rfl rfl rfl rfl (by simp) rfl ⟨(by (repeat (first | exact Sub.refl _ | exact Sub.nil _ | (apply sub_pick; (repeat (first | exact Has.here | apply Has.there)); skip) | apply Sub.drop))), ?_⟩
              refine stepY 13 ?_
              refine stepY 14 ?_
              refine any_rest rfl ?_
              refine walk ?_
              refine out_L (L' := ownS rO16 5 32 133 H3 (.slice (some ⟨b11, 0, none⟩) 1 1) [ocR ⟨x1, x2, x3⟩ true true] :: row b7 63 [I 5, I x1, I x2, I x3, I 0, nilS, nilS, .bool false, nilS] :: row p4 35 [I m.Node, I m.Life, I m.Count, .slice bq (cutR ⟨x1, x2, x3⟩ m.Txns).length cq] :: R) ?_ ?_
              · refine Sub.trans ?_ (own1 (x := ocR ⟨x1, x2, x3⟩ true true) ⟨rfl, q1, q2, q3⟩ c32)
                (repeat (first | exact Sub.refl _ | exact Sub.nil _ | (apply sub_pick; (repeat (first | exact Has.here | apply Has.there)); skip) | apply Sub.drop))
              refine out_freeze (.slice (some ⟨b11, 0, none⟩) 1 1) fun H7 hl7 hso => ?_
              refine out_L (L' := ownS rRec 9 120 63 H7 (.slice (some ⟨b7, 0, none⟩) 1 1) [recE ⟨x1, x2, x3⟩] :: row p4 35 [I m.Node, I m.Life, I m.Count, .slice bq (cutR ⟨x1, x2, x3⟩ m.Txns).length cq] :: R) ?_ ?_
              · refine Sub.trans ?_ (own1 (x := recE ⟨x1, x2, x3⟩) (recE_reads ⟨q1, q2, q3⟩) c120)
                (repeat (first | exact Sub.refl _ | exact Sub.nil _ | (apply sub_pick; (repeat (first | exact Has.here | apply Has.there)); skip) | apply Sub.drop))
              refine out_freeze (.slice (some ⟨b7, 0, none⟩) 1 1) fun H8 hl8 hsr => ?_
              refine fin0 ?_
              exact ⟨_, { m with Txns := cutR ⟨x1, x2, x3⟩ m.Txns }, _, _, _, [], _, _, rfl, ⟨_, rfl, f1, f2, f3, hs'.mono (hl7.trans hl8)⟩, SlB.nil, hsr, hso.mono hl8, hct, rfl⟩
            case c22 =>
              skip
              refine stepY 13 ?_
              refine stepY 14 ?_
              refine any_w 11 rfl (op_bs1 rfl rfl rfl fun b11 => ⟨(by first | exact Go.Sx.Heap.le.refl _ | exact hl3), (by (repeat (first | exact Sub.refl _ | exact Sub.nil _ | (apply sub_pick; (repeat (first | exact Has.here | apply Has.there)); skip) | apply Sub.drop))), ?_⟩)
              refine any_rest rfl ?_
              refine walk ?_
              refine out_L (L' := ownS rO16 5 32 133 H3 (.slice (some ⟨b11, 0, none⟩) 1 1) [ocR ⟨x1, x2, x3⟩ true true] :: row b7 63 [I 5, I x1, I x2, I x3, I 0, nilS, nilS, .bool false, nilS] :: row p4 35 [I m.Node, I m.Life, I m.Count, .slice bq (cutR ⟨x1, x2, x3⟩ m.Txns).length cq] :: R) ?_ ?_
              · refine Sub.trans ?_ (own1 (x := ocR ⟨x1, x2, x3⟩ true true) ⟨rfl, q1, q2, q3⟩ c32)
                (repeat (first | exact Sub.refl _ | exact Sub.nil _ | (apply sub_pick; (repeat (first | exact Has.here | apply Has.there)); skip) | apply Sub.drop))
              refine out_freeze (.slice (some ⟨b11, 0, none⟩) 1 1) fun H7 hl7 hso => ?_
              refine out_L (L' := ownS rRec 9 120 63 H7 (.slice (some ⟨b7, 0, none⟩) 1 1) [recE ⟨x1, x2, x3⟩] :: row p4 35 [I m.Node, I m.Life, I m.Count, .slice bq (cutR ⟨x1, x2, x3⟩ m.Txns).length cq] :: R) ?_ ?_
              · refine Sub.trans ?_ (own1 (x := recE ⟨x1, x2, x3⟩) (recE_reads ⟨q1, q2, q3⟩) c120)
                (repeat (first | exact Sub.refl _ | exact Sub.nil _ | (apply sub_pick; (repeat (first | exact Has.here | apply Has.there)); skip) | apply Sub.drop))
              refine out_freeze (.slice (some ⟨b7, 0, none⟩) 1 1) fun H8 hl8 hsr => ?_
              refine fin0 ?_
              exact ⟨_, { m with Txns := cutR ⟨x1, x2, x3⟩ m.Txns }, _, _, _, [], _, _, rfl, ⟨_, rfl, f1, f2, f3, hs'.mono (hl7.trans hl8)⟩, SlB.nil, hsr, hso.mono hl8, hct, rfl⟩
          case c20 =>
            skip
            refine any_call 3 rfl rfl (rWithout_spec (W0 := W0) (H := H) (m := m) (x := ⟨x1, x2, x3⟩) (c := m.cv (.slice b1 m.Txns.length c1)) ⟨_, rfl, f1, f2, f3, hs1⟩ (by omega)) fun r3 H3 B hl3 ⟨c', er, hc', eB⟩ => ?_
            subst er eB
            obtain ⟨s', rfl, _, _, _, hs'⟩ := hc'
            obtain ⟨bq, cq, rfl, _, _⟩ := hs'.1.shape
            refine ⟨(by (repeat (first | exact Sub.refl _ | exact Sub.nil _ | (apply sub_pick; (repeat (first | exact Has.here | apply Has.there)); skip) | apply Sub.drop))), ?_⟩
            refine any_sta 12 rfl rfl rfl rfl (by simp) rfl ⟨(by (repeat (first | exact Sub.refl _ | exact Sub.nil _ | (apply sub_pick; (repeat (first | exact Has.here | apply Has.there)); skip) | apply Sub.drop))), ?_⟩
            refine stepY 13 ?_
            refine stepY 14 ?_
            refine any_rest rfl ?_
            refine walk ?_
            refine out_L (L' := ownS rO16 5 32 133 H3 (.slice (some ⟨b11, 0, none⟩) 1 1) [ocR ⟨x1, x2, x3⟩ true true] :: row b7 63 [I 5, I x1, I x2, I x3, I 0, nilS, nilS, .bool false, nilS] :: row p4 35 [I m.Node, I m.Life, I m.Count, .slice bq (cutR ⟨x1, x2, x3⟩ m.Txns).length cq] :: R) ?_ ?_
            · refine Sub.trans ?_ (own1 (x := ocR ⟨x1, x2, x3⟩ true true) ⟨rfl, q1, q2, q3⟩ c32)
              (repeat (first | exact Sub.refl _ | exact Sub.nil _ | (apply sub_pick; (repeat (first | exact Has.here | apply Has.there)); skip) | apply Sub.drop))
            refine out_freeze (.slice (some ⟨b11, 0, none⟩) 1 1) fun H7 hl7 hso => ?_
            refine out_L (L' := ownS rRec 9 120 63 H7 (.slice (some ⟨b7, 0, none⟩) 1 1) [recE ⟨x1, x2, x3⟩] :: row p4 35 [I m.Node, I m.Life, I m.Count, .slice bq (cutR ⟨x1, x2, x3⟩ m.Txns).length cq] :: R) ?_ ?_
            · refine Sub.trans ?_ (own1 (x := recE ⟨x1, x2, x3⟩) (recE_reads ⟨q1, q2, q3⟩) c120)
              (repeat (first | exact Sub.refl _ | exact Sub.nil _ | (apply sub_pick; (repeat (first | exact Has.here | apply Has.there)); skip) | apply Sub.drop))
            refine out_freeze (.slice (some ⟨b7, 0, none⟩) 1 1) fun H8 hl8 hsr => ?_
            refine fin0 ?_
            exact ⟨_, { m with Txns := cutR ⟨x1, x2, x3⟩ m.Txns }, _, _, _, [], _, _, rfl, ⟨_, rfl, f1, f2, f3, hs'.mono (hl7.trans hl8)⟩, SlB.nil, hsr, hso.mono hl8, hct, rfl⟩
        case c9 =>
          skip
          refine any_2 3 7 (at_call 3 rfl rfl (rWithout_spec (W0 := W0) (H := H) (m := m) (x := ⟨x1, x2, x3⟩) (c := m.cv (.slice b1 m.Txns.length c1)) ⟨_, rfl, f1, f2, f3, hs1⟩ (by omega)) fun r3 H3 B hl3 ⟨c', er, hc', eB⟩ => ?c23) (at_w 7 rfl (op_bs1 rfl rfl rfl fun b7 => ⟨(by first | exact Go.Sx.Heap.le.refl _ | exact hl3), (by (repeat (first | exact Sub.refl _ | exact Sub.nil _ | (apply sub_pick; (repeat (first | exact Has.here | apply Has.there)); skip) | apply Sub.drop))), ?c24⟩))
          case c23 =>
            subst er eB
            obtain ⟨s', rfl, _, _, _, hs'⟩ := hc'
            obtain ⟨bq, cq, rfl, _, _⟩ := hs'.1.shape
            refine ⟨(by (repeat (first | exact Sub.refl _ | exact Sub.nil _ | (apply sub_pick; (repeat (first | exact Has.here | apply Has.there)); skip) | apply Sub.drop))), ?_⟩
            refine any_2 7 12 (at_w 7 rfl (op_bs1 rfl rfl rfl fun b7 => ⟨(by first | exact Go.Sx.Heap.le.refl _ | exact hl3), (by (repeat (first | exact Sub.refl _ | exact Sub.nil _ | (apply sub_pick; (repeat (first | exact Has.here | apply Has.there)); skip) | apply Sub.drop))), ?c25⟩)) (at_s 12 rfl rfl rfl rfl (by simp) rfl ⟨(by (repeat (first | exact Sub.refl _ | exact Sub.nil _ | (apply sub_pick; (repeat (first | exact Has.here | apply Has.there)); skip) | apply Sub.drop))), ?c26⟩)
            case c25 =>
              skip
              refine any_sta 12 rfl rfl rfl rfl (by simp) rfl ⟨(by (repeat (first | exact Sub.refl _ | exact Sub.nil _ | (apply sub_pick; (repeat (first | exact Has.here | apply Has.there)); skip) | apply Sub.drop))), ?_⟩
              refine stepY 13 ?_
              refine stepY 14 ?_
              refine any_rest rfl ?_
              refine walk ?_
              refine out_L (L' := ownS rO16 5 32 133 H3 (.slice (some ⟨b11, 0, none⟩) 1 1) [ocR ⟨x1, x2, x3⟩ true true] :: row b7 63 [I 5, I x1, I x2, I x3, I 0, nilS, nilS, .bool false, nilS] :: row p4 35 [I m.Node, I m.Life, I m.Count, .slice bq (cutR ⟨x1, x2, x3⟩ m.Txns).length cq] :: R) ?_ ?_
              · refine Sub.trans ?_ (own1 (x := ocR ⟨x1, x2, x3⟩ true true) ⟨rfl, q1, q2, q3⟩ c32)
                (repeat (first | exact Sub.refl _ | exact Sub.nil _ | (apply sub_pick; (repeat (first | exact Has.here | apply Has.there)); skip) | apply Sub.drop))
              refine out_freeze (.slice (some ⟨b11, 0, none⟩) 1 1) fun H7 hl7 hso => ?_
              refine out_L (L' := ownS rRec 9 120 63 H7 (.slice (some ⟨b7, 0, none⟩) 1 1) [recE ⟨x1, x2, x3⟩] :: row p4 35 [I m.Node, I m.Life, I m.Count, .slice bq (cutR ⟨x1, x2, x3⟩ m.Txns).length cq] :: R) ?_ ?_
              · refine Sub.trans ?_ (own1 (x := recE ⟨x1, x2, x3⟩) (recE_reads ⟨q1, q2, q3⟩) c120)
                (repeat (first | exact Sub.refl _ | exact Sub.nil _ | (apply sub_pick; (repeat (first | exact Has.here | apply Has.there)); skip) | apply Sub.drop))
              refine out_freeze (.slice (some ⟨b7, 0, none⟩) 1 1) fun H8 hl8 hsr => ?_
              refine fin0 ?_
              exact ⟨_, { m with Txns := cutR ⟨x1, x2, x3⟩ m.Txns }, _, _, _, [], _, _, rfl, ⟨_, rfl, f1, f2, f3, hs'.mono (hl7.trans hl8)⟩, SlB.nil, hsr, hso.mono hl8, hct, rfl⟩
            case c26 =>
              skip
              refine stepY 13 ?_
              refine any_w 7 rfl (op_bs1 rfl rfl rfl fun b7 => ⟨(by first | exact Go.Sx.Heap.le.refl _ | exact hl3), (by (repeat (first | exact Sub.refl _ | exact Sub.nil _ | (apply sub_pick; (repeat (first | exact Has.here | apply Has.there)); skip) | apply Sub.drop))), ?_⟩)
              refine stepY 14 ?_
              refine any_rest rfl ?_
              refine walk ?_
              refine out_L (L' := ownS rO16 5 32 133 H3 (.slice (some ⟨b11, 0, none⟩) 1 1) [ocR ⟨x1, x2, x3⟩ true true] :: row b7 63 [I 5, I x1, I x2, I x3, I 0, nilS, nilS, .bool false, nilS] :: row p4 35 [I m.Node, I m.Life, I m.Count, .slice bq (cutR ⟨x1, x2, x3⟩ m.Txns).length cq] :: R) ?_ ?_
              · refine Sub.trans ?_ (own1 (x := ocR ⟨x1, x2, x3⟩ true true) ⟨rfl, q1, q2, q3⟩ c32)
                (repeat (first | exact Sub.refl _ | exact Sub.nil _ | (apply sub_pick; (repeat (first | exact Has.here | apply Has.there)); skip) | apply Sub.drop))
              refine out_freeze (.slice (some ⟨b11, 0, none⟩) 1 1) fun H7 hl7 hso => ?_
              refine out_L (L' := ownS rRec 9 120 63 H7 (.slice (some ⟨b7, 0, none⟩) 1 1) [recE ⟨x1, x2, x3⟩] :: row p4 35 [I m.Node, I m.Life, I m.Count, .slice bq (cutR ⟨x1, x2, x3⟩ m.Txns).length cq] :: R) ?_ ?_
              · refine Sub.trans ?_ (own1 (x := recE ⟨x1, x2, x3⟩) (recE_reads ⟨q1, q2, q3⟩) c120)
                (repeat (first | exact Sub.refl _ | exact Sub.nil _ | (apply sub_pick; (repeat (first | exact Has.here | apply Has.there)); skip) | apply Sub.drop))
              refine out_freeze (.slice (some ⟨b7, 0, none⟩) 1 1) fun H8 hl8 hsr => ?_
              refine fin0 ?_
              exact ⟨_, { m with Txns := cutR ⟨x1, x2, x3⟩ m.Txns }, _, _, _, [], _, _, rfl, ⟨_, rfl, f1, f2, f3, hs'.mono (hl7.trans hl8)⟩, SlB.nil, hsr, hso.mono hl8, hct, rfl⟩
          case c24 =>
            skip
            refine any_call 3 rfl rfl (rWithout_spec (W0 := W0) (H := H) (m := m) (x := ⟨x1, x2, x3⟩) (c := m.cv (.slice b1 m.Txns.length c1)) ⟨_, rfl, f1, f2, f3, hs1⟩ (by omega)) fun r3 H3 B hl3 ⟨c', er, hc', eB⟩ => ?_
            subst er eB
            obtain ⟨s', rfl, _, _, _, hs'⟩ := hc'
            obtain ⟨bq, cq, rfl, _, _⟩ := hs'.1.shape
            refine ⟨(by (repeat (first | exact Sub.refl _ | exact Sub.nil _ | (apply sub_pick; (repeat (first | exact Has.here | apply Has.there)); skip) | apply Sub.drop))), ?_⟩
            refine any_sta 12 rfl rfl rfl rfl (by simp) rfl ⟨(by (repeat (first | exact Sub.refl _ | exact Sub.nil _ | (apply sub_pick; (repeat (first | exact Has.here | apply Has.there)); skip) | apply Sub.drop))), ?_⟩
            refine stepY 13 ?_
            refine stepY 14 ?_
            refine any_rest rfl ?_
            refine walk ?_
            refine out_L (L' := ownS rO16 5 32 133 H3 (.slice (some ⟨b11, 0, none⟩) 1 1) [ocR ⟨x1, x2, x3⟩ true true] :: row b7 63 [I 5, I x1, I x2, I x3, I 0, nilS, nilS, .bool false, nilS] :: row p4 35 [I m.Node, I m.Life, I m.Count, .slice bq (cutR ⟨x1, x2, x3⟩ m.Txns).length cq] :: R) ?_ ?_
            · refine Sub.trans ?_ (own1 (x := ocR ⟨x1, x2, x3⟩ true true) ⟨rfl, q1, q2, q3⟩ c32)
              (repeat (first | exact Sub.refl _ | exact Sub.nil _ | (apply sub_pick; (repeat (first | exact Has.here | apply Has.there)); skip) | apply Sub.drop))
            refine out_freeze (.slice (some ⟨b11, 0, none⟩) 1 1) fun H7 hl7 hso => ?_
            refine out_L (L' := ownS rRec 9 120 63 H7 (.slice (some ⟨b7, 0, none⟩) 1 1) [recE ⟨x1, x2, x3⟩] :: row p4 35 [I m.Node, I m.Life, I m.Count, .slice bq (cutR ⟨x1, x2, x3⟩ m.Txns).length cq] :: R) ?_ ?_
            · refine Sub.trans ?_ (own1 (x := recE ⟨x1, x2, x3⟩) (recE_reads ⟨q1, q2, q3⟩) c120)
              (repeat (first | exact Sub.refl _ | exact Sub.nil _ | (apply sub_pick; (repeat (first | exact Has.here | apply Has.there)); skip) | apply Sub.drop))
            refine out_freeze (.slice (some ⟨b7, 0, none⟩) 1 1) fun H8 hl8 hsr => ?_
            refine fin0 ?_
            exact ⟨_, { m with Txns := cutR ⟨x1, x2, x3⟩ m.Txns }, _, _, _, [], _, _, rfl, ⟨_, rfl, f1, f2, f3, hs'.mono (hl7.trans hl8)⟩, SlB.nil, hsr, hso.mono hl8, hct, rfl⟩
    · refine walk ?_
      refine walk ?_
      refine fin0 ?_
      exact ⟨_, _, _, _, _, [], [], [], rfl, ⟨_, rfl, f1, f2, f3, hs1⟩, SlB.nil, SlB.nil, SlB.nil, (.nopart hf k5 _ hjm hx (.inr (.inl ⟨rfl, k4⟩))), rfl⟩
  | false =>
    by_cases k2 : g.Kind = 2
    · refine walk ?_
      refine ex_ifb rfl (show (!g.Yes) = true ↔ g.Yes = false by simp) (fun hy => ?_) (fun hy => ?_)
      · skip
        have hct : RCHear m g { m with Txns := cutR g.Txn m.Txns } (noR m.Node ⟨⟨x1, x2, x3⟩, false, bg, ps, wk, hd⟩) [] [ocR g.Txn false false] := .against hf _ hjm hx k2 hpm rfl hy
        rw [← hx'] at hct
        refine walk ?_
        refine ex_any 14 [row p9 98 [I x1, I x2, I x3, .bool false, I bg, .slice e1 ps.length d1, .slice e2 wk.length d2, .slice e3 hd.length d3], row p3 53 (g.cv (.slice mb1 g.Work.Take.length mc1) (.slice mb2 g.Work.Drop.length mc2) (.slice mb3 g.Call.Route.Cells.length mc3) (.slice mb4 g.Reply.Route.Cells.length mc4)), row p2 35 (m.cv (.slice b1 m.Txns.length c1))] ?_
        refine stepY 0 ?_; refine stepY 1 ?_; refine stepY 2 ?_; refine stepY 4 ?_; refine stepY 5 ?_; refine stepY 7 ?_; refine stepY 8 ?_
        refine gny_bld 9 rfl rfl rfl ?_
        refine any_2 3 10 (at_call 3 rfl rfl (rWithout_spec (W0 := W0) (H := H) (m := m) (x := ⟨x1, x2, x3⟩) (c := m.cv (.slice b1 m.Txns.length c1)) ⟨_, rfl, f1, f2, f3, hs1⟩ (by omega)) fun r3 H3 B hl3 ⟨c', er, hc', eB⟩ => ?c1) (at_w 10 rfl (op_bs1 rfl rfl rfl fun b10 => ⟨(by first | exact Go.Sx.Heap.le.refl _ | exact hl3), (by (repeat (first | exact Sub.refl _ | exact Sub.nil _ | (apply sub_pick; (repeat (first | exact Has.here | apply Has.there)); skip) | apply Sub.drop))), ?c2⟩))
        case c1 =>
          subst er eB
          obtain ⟨s', rfl, _, _, _, hs'⟩ := hc'
          obtain ⟨bq, cq, rfl, _, _⟩ := hs'.1.shape
          refine ⟨(by (repeat (first | exact Sub.refl _ | exact Sub.nil _ | (apply sub_pick; (repeat (first | exact Has.here | apply Has.there)); skip) | apply Sub.drop))), ?_⟩
          refine any_2 6 10 (at_call 6 rfl rfl (rNo_spec (W0 := W0) (H := H3) (m := m) (t := ⟨⟨x1, x2, x3⟩, false, bg, ps, wk, hd⟩) (c := m.cv (.slice b1 m.Txns.length c1)) ⟨_, rfl, f1, f2, f3, hs1.mono hl3⟩ (hcT hl3) okn) fun r6 H6 B hl6 ⟨eB, eH⟩ => ?c3) (at_w 10 rfl (op_bs1 rfl rfl rfl fun b10 => ⟨(by first | exact Go.Sx.Heap.le.refl _ | exact hl3), (by (repeat (first | exact Sub.refl _ | exact Sub.nil _ | (apply sub_pick; (repeat (first | exact Has.here | apply Has.there)); skip) | apply Sub.drop))), ?c4⟩))
          case c3 =>
            subst eB
            obtain rfl : H3 = H6 := eH.symm
            clear hl6 eH
            refine ⟨(by (repeat (first | exact Sub.refl _ | exact Sub.nil _ | (apply sub_pick; (repeat (first | exact Has.here | apply Has.there)); skip) | apply Sub.drop))), ?_⟩
            refine any_2 10 11 (at_w 10 rfl (op_bs1 rfl rfl rfl fun b10 => ⟨(by first | exact Go.Sx.Heap.le.refl _ | exact hl3), (by (repeat (first | exact Sub.refl _ | exact Sub.nil _ | (apply sub_pick; (repeat (first | exact Has.here | apply Has.there)); skip) | apply Sub.drop))), ?c5⟩)) (at_s 11 rfl rfl rfl rfl (by simp) rfl ⟨(by (repeat (first | exact Sub.refl _ | exact Sub.nil _ | (apply sub_pick; (repeat (first | exact Has.here | apply Has.there)); skip) | apply Sub.drop))), ?c6⟩)
            case c5 =>
              skip
              refine any_sta 11 rfl rfl rfl rfl (by simp) rfl ⟨(by (repeat (first | exact Sub.refl _ | exact Sub.nil _ | (apply sub_pick; (repeat (first | exact Has.here | apply Has.there)); skip) | apply Sub.drop))), ?_⟩
              refine stepY 12 ?_
              refine stepY 13 ?_
              refine any_rest rfl ?_
              refine walk ?_
              refine out_L (L' := ownS rO16 5 32 133 H3 (.slice (some ⟨b10, 0, none⟩) 1 1) [ocR ⟨x1, x2, x3⟩ false false] :: ownS rMessage 19 216 53 H3 r6 (noR m.Node ⟨⟨x1, x2, x3⟩, false, bg, ps, wk, hd⟩) :: row p4 35 [I m.Node, I m.Life, I m.Count, .slice bq (cutR ⟨x1, x2, x3⟩ m.Txns).length cq] :: R) ?_ ?_
              · refine Sub.trans ?_ (own1 (x := ocR ⟨x1, x2, x3⟩ false false) ⟨rfl, q1, q2, q3⟩ c32)
                (repeat (first | exact Sub.refl _ | exact Sub.nil _ | (apply sub_pick; (repeat (first | exact Has.here | apply Has.there)); skip) | apply Sub.drop))
              refine out_freeze (.slice (some ⟨b10, 0, none⟩) 1 1) fun H7 hl7 hso => ?_
              refine out_freeze r6 fun H8 hl8 hsm => ?_
              refine fin0 ?_
              exact ⟨_, { m with Txns := cutR ⟨x1, x2, x3⟩ m.Txns }, _, _, _, _, [], _, rfl, ⟨_, rfl, f1, f2, f3, hs'.mono (hl7.trans hl8)⟩, hsm, SlB.nil, hso.mono hl8, hct, rfl⟩
            case c6 =>
              skip
              refine stepY 12 ?_
              refine stepY 13 ?_
              refine any_w 10 rfl (op_bs1 rfl rfl rfl fun b10 => ⟨(by first | exact Go.Sx.Heap.le.refl _ | exact hl3), (by (repeat (first | exact Sub.refl _ | exact Sub.nil _ | (apply sub_pick; (repeat (first | exact Has.here | apply Has.there)); skip) | apply Sub.drop))), ?_⟩)
              refine any_rest rfl ?_
              refine walk ?_
              refine out_L (L' := ownS rO16 5 32 133 H3 (.slice (some ⟨b10, 0, none⟩) 1 1) [ocR ⟨x1, x2, x3⟩ false false] :: ownS rMessage 19 216 53 H3 r6 (noR m.Node ⟨⟨x1, x2, x3⟩, false, bg, ps, wk, hd⟩) :: row p4 35 [I m.Node, I m.Life, I m.Count, .slice bq (cutR ⟨x1, x2, x3⟩ m.Txns).length cq] :: R) ?_ ?_
              · refine Sub.trans ?_ (own1 (x := ocR ⟨x1, x2, x3⟩ false false) ⟨rfl, q1, q2, q3⟩ c32)
                (repeat (first | exact Sub.refl _ | exact Sub.nil _ | (apply sub_pick; (repeat (first | exact Has.here | apply Has.there)); skip) | apply Sub.drop))
              refine out_freeze (.slice (some ⟨b10, 0, none⟩) 1 1) fun H7 hl7 hso => ?_
              refine out_freeze r6 fun H8 hl8 hsm => ?_
              refine fin0 ?_
              exact ⟨_, { m with Txns := cutR ⟨x1, x2, x3⟩ m.Txns }, _, _, _, _, [], _, rfl, ⟨_, rfl, f1, f2, f3, hs'.mono (hl7.trans hl8)⟩, hsm, SlB.nil, hso.mono hl8, hct, rfl⟩
          case c4 =>
            skip
            refine any_call 6 rfl rfl (rNo_spec (W0 := W0) (H := H3) (m := m) (t := ⟨⟨x1, x2, x3⟩, false, bg, ps, wk, hd⟩) (c := m.cv (.slice b1 m.Txns.length c1)) ⟨_, rfl, f1, f2, f3, hs1.mono hl3⟩ (hcT hl3) okn) fun r6 H6 B hl6 ⟨eB, eH⟩ => ?_
            subst eB
            obtain rfl : H3 = H6 := eH.symm
            clear hl6 eH
            refine ⟨(by (repeat (first | exact Sub.refl _ | exact Sub.nil _ | (apply sub_pick; (repeat (first | exact Has.here | apply Has.there)); skip) | apply Sub.drop))), ?_⟩
            refine any_sta 11 rfl rfl rfl rfl (by simp) rfl ⟨(by (repeat (first | exact Sub.refl _ | exact Sub.nil _ | (apply sub_pick; (repeat (first | exact Has.here | apply Has.there)); skip) | apply Sub.drop))), ?_⟩
            refine stepY 12 ?_
            refine stepY 13 ?_
            refine any_rest rfl ?_
            refine walk ?_
            refine out_L (L' := ownS rO16 5 32 133 H3 (.slice (some ⟨b10, 0, none⟩) 1 1) [ocR ⟨x1, x2, x3⟩ false false] :: ownS rMessage 19 216 53 H3 r6 (noR m.Node ⟨⟨x1, x2, x3⟩, false, bg, ps, wk, hd⟩) :: row p4 35 [I m.Node, I m.Life, I m.Count, .slice bq (cutR ⟨x1, x2, x3⟩ m.Txns).length cq] :: R) ?_ ?_
            · refine Sub.trans ?_ (own1 (x := ocR ⟨x1, x2, x3⟩ false false) ⟨rfl, q1, q2, q3⟩ c32)
              (repeat (first | exact Sub.refl _ | exact Sub.nil _ | (apply sub_pick; (repeat (first | exact Has.here | apply Has.there)); skip) | apply Sub.drop))
            refine out_freeze (.slice (some ⟨b10, 0, none⟩) 1 1) fun H7 hl7 hso => ?_
            refine out_freeze r6 fun H8 hl8 hsm => ?_
            refine fin0 ?_
            exact ⟨_, { m with Txns := cutR ⟨x1, x2, x3⟩ m.Txns }, _, _, _, _, [], _, rfl, ⟨_, rfl, f1, f2, f3, hs'.mono (hl7.trans hl8)⟩, hsm, SlB.nil, hso.mono hl8, hct, rfl⟩
        case c2 =>
          skip
          refine any_call 3 rfl rfl (rWithout_spec (W0 := W0) (H := H) (m := m) (x := ⟨x1, x2, x3⟩) (c := m.cv (.slice b1 m.Txns.length c1)) ⟨_, rfl, f1, f2, f3, hs1⟩ (by omega)) fun r3 H3 B hl3 ⟨c', er, hc', eB⟩ => ?_
          subst er eB
          obtain ⟨s', rfl, _, _, _, hs'⟩ := hc'
          obtain ⟨bq, cq, rfl, _, _⟩ := hs'.1.shape
          refine ⟨(by (repeat (first | exact Sub.refl _ | exact Sub.nil _ | (apply sub_pick; (repeat (first | exact Has.here | apply Has.there)); skip) | apply Sub.drop))), ?_⟩
          refine any_call 6 rfl rfl (rNo_spec (W0 := W0) (H := H3) (m := m) (t := ⟨⟨x1, x2, x3⟩, false, bg, ps, wk, hd⟩) (c := m.cv (.slice b1 m.Txns.length c1)) ⟨_, rfl, f1, f2, f3, hs1.mono hl3⟩ (hcT hl3) okn) fun r6 H6 B hl6 ⟨eB, eH⟩ => ?_
          subst eB
          obtain rfl : H3 = H6 := eH.symm
          clear hl6 eH
          refine ⟨(by (repeat (first | exact Sub.refl _ | exact Sub.nil _ | (apply sub_pick; (repeat (first | exact Has.here | apply Has.there)); skip) | apply Sub.drop))), ?_⟩
          refine any_sta 11 rfl rfl rfl rfl (by simp) rfl ⟨(by (repeat (first | exact Sub.refl _ | exact Sub.nil _ | (apply sub_pick; (repeat (first | exact Has.here | apply Has.there)); skip) | apply Sub.drop))), ?_⟩
          refine stepY 12 ?_
          refine stepY 13 ?_
          refine any_rest rfl ?_
          refine walk ?_
          refine out_L (L' := ownS rO16 5 32 133 H3 (.slice (some ⟨b10, 0, none⟩) 1 1) [ocR ⟨x1, x2, x3⟩ false false] :: ownS rMessage 19 216 53 H3 r6 (noR m.Node ⟨⟨x1, x2, x3⟩, false, bg, ps, wk, hd⟩) :: row p4 35 [I m.Node, I m.Life, I m.Count, .slice bq (cutR ⟨x1, x2, x3⟩ m.Txns).length cq] :: R) ?_ ?_
          · refine Sub.trans ?_ (own1 (x := ocR ⟨x1, x2, x3⟩ false false) ⟨rfl, q1, q2, q3⟩ c32)
            (repeat (first | exact Sub.refl _ | exact Sub.nil _ | (apply sub_pick; (repeat (first | exact Has.here | apply Has.there)); skip) | apply Sub.drop))
          refine out_freeze (.slice (some ⟨b10, 0, none⟩) 1 1) fun H7 hl7 hso => ?_
          refine out_freeze r6 fun H8 hl8 hsm => ?_
          refine fin0 ?_
          exact ⟨_, { m with Txns := cutR ⟨x1, x2, x3⟩ m.Txns }, _, _, _, _, [], _, rfl, ⟨_, rfl, f1, f2, f3, hs'.mono (hl7.trans hl8)⟩, hsm, SlB.nil, hso.mono hl8, hct, rfl⟩
      · have hy : g.Yes = true := by simpa using hy
        refine walk ?_
        refine ops_mk0 (w := 1) rBool rfl fun b5 => ?_
        refine walk ?_
        refine ops_appS rfl rfl hsh (by simp only [cap47, List.length_nil]; omega) fun d5 c5 => ?_
        rw [List.nil_append, List.length_nil, Nat.zero_add]
        refine walk ?_
        refine ops_stS (y' := true) rfl rfl rfl rfl (show i < hd.length by omega) ?_
        refine walk ?_
        cases all with
        | false =>
          have hna : ¬ othersR ⟨⟨x1, x2, x3⟩, false, bg, ps, wk, hd⟩ g.From := fun h => by
            have := hu.2.2 fun i hi _ hne => h i hi hne
            cases this
          refine ex_ifb rfl (show (!false) = true ↔ True by simp) (fun _ => ?_) (fun h => absurd trivial h)
          refine walk ?_
          refine ops_freeze (.slice d5 hd.length c5) fun H6 hl6 hsd => ?_
          have hrt : rC16 H6 [I x1, I x2, I x3, .bool false, I bg, .slice e1 ps.length d1, .slice e2 wk.length d2, .slice d5 hd.length c5] (markR ⟨⟨x1, x2, x3⟩, false, bg, ps, wk, hd⟩ i) := ⟨_, _, _, rfl, q1, q2, q3, q4, q5.mono hl6, q6.mono hl6, hsd⟩
          refine ops_call rfl rfl (rPutC_spec (W0 := W0) (H := H6) (t := markR ⟨⟨x1, x2, x3⟩, false, bg, ps, wk, hd⟩ i) (l := m.Txns) (hs1.mono hl6) hrt (by omega)) fun r7 H7 B hl7 ⟨eB, eH⟩ => ?_
          subst eB eH
          refine ops_freeze r7 fun H8 hl8 hsp => ?_
          obtain ⟨bp, cp, rfl, _, _⟩ := hsp.1.shape
          refine walk ?_
          refine fin0 ?_
          exact ⟨_, { m with Txns := putR (markR ⟨⟨x1, x2, x3⟩, false, bg, ps, wk, hd⟩ i) m.Txns }, _, _, _, [], [], [], rfl, ⟨_, rfl, f1, f2, f3, hsp⟩, SlB.nil, SlB.nil, SlB.nil, .some hf _ hjm hx (.inr ⟨rfl, k2, hy⟩) i hi hpi hna, rfl⟩
        | true =>
          have hall : othersR ⟨⟨x1, x2, x3⟩, false, bg, ps, wk, hd⟩ g.From := fun i hi hne => hu.2.1 rfl i hi hi hne
          have hct : RCHear m g { m with Txns := putR (openR ⟨⟨x1, x2, x3⟩, false, bg, ps, wk, hd⟩) m.Txns } (againR m.Node (openR ⟨⟨x1, x2, x3⟩, false, bg, ps, wk, hd⟩) ps.length) [recC g.Txn ps] [ocR g.Txn true false] := .opens hf _ hjm hx rfl k2 hy hpm hall
          rw [← hx'] at hct
          refine ex_ifb rfl (show (!true) = true ↔ False by simp) (fun h => h.elim) (fun _ => ?_)
          refine walk ?_
          refine ops_w rfl rfl (op_mkT rBool false ps.length rfl (by exact rfl) (by simp only [cap47]; omega) (by simp only [cap47]; omega) fun b31 => ?_)
          refine walk ?_
          refine ops_freeze (.slice (some ⟨b31, 0, none⟩) ps.length ps.length) fun H6 hl6 hsd => ?_
          have hrt : rC16 H6 [I x1, I x2, I x3, .bool true, I bg, .slice e1 ps.length d1, .slice e2 wk.length d2, .slice (some ⟨b31, 0, none⟩) ps.length ps.length] (openR ⟨⟨x1, x2, x3⟩, false, bg, ps, wk, hd⟩) := ⟨_, _, _, rfl, q1, q2, q3, q4, q5.mono hl6, q6.mono hl6, hsd⟩
          refine ops_call rfl rfl (rPutC_spec (W0 := W0) (H := H6) (t := openR ⟨⟨x1, x2, x3⟩, false, bg, ps, wk, hd⟩) (l := m.Txns) (hs1.mono hl6) hrt (by omega)) fun r7 H7 B hl7 ⟨eB, eH⟩ => ?_
          subst eB eH
          refine ops_freeze r7 fun H3 hl8 hsp => ?_
          obtain ⟨bq, cq, rfl, _, _⟩ := hsp.1.shape
          have hl3 : H.le H3 := by first | exact hl6.trans hl8 | exact hl6.trans (hl7.trans hl8)
          have hcO : rC16 H3 [I x1, I x2, I x3, .bool true, I bg, .slice e1 ps.length d1, .slice e2 wk.length d2, .slice (some ⟨b31, 0, none⟩) ps.length ps.length] (openR ⟨⟨x1, x2, x3⟩, false, bg, ps, wk, hd⟩) := ⟨_, _, _, rfl, q1, q2, q3, q4, q5.mono hl3, q6.mono hl3, hsd.mono hl8⟩
          refine walk ?_
          refine ex_any 17 [row p9 98 [I x1, I x2, I x3, .bool true, I bg, .slice e1 ps.length d1, .slice e2 wk.length d2, .slice (some ⟨b31, 0, none⟩) ps.length ps.length], row p2 35 [I m.Node, I m.Life, I m.Count, .slice bq (putR (openR ⟨⟨x1, x2, x3⟩, false, bg, ps, wk, hd⟩) m.Txns).length cq]] ?_
          refine stepY 0 ?_; refine stepY 1 ?_; refine stepY 2 ?_; refine stepY 4 ?_; refine stepY 5 ?_; refine stepY 6 ?_; refine stepY 7 ?_; refine stepY 10 ?_; refine stepY 11 ?_
          refine gny_bld 8 rfl rfl rfl ?_
          refine gny_bld 12 rfl rfl rfl ?_
          refine any_3 3 9 13 (at_call 3 rfl rfl (rAgainC_spec (W0 := W0) (H := H3) (m := ⟨m.Node, m.Life, m.Count, putR (openR ⟨⟨x1, x2, x3⟩, false, bg, ps, wk, hd⟩) m.Txns⟩) (t := openR ⟨⟨x1, x2, x3⟩, false, bg, ps, wk, hd⟩) ⟨_, rfl, f1, f2, f3, hsp⟩ hcO (by unfold openR; simp) (fun h => by cases h) okn) fun r3 H6 B hl6 ⟨eB, eH⟩ => ?c27) (at_w 9 rfl (op_bs1 rfl rfl rfl fun b9 => ⟨(by first | exact Go.Sx.Heap.le.refl _ | exact hl3), (by (repeat (first | exact Sub.refl _ | exact Sub.nil _ | (apply sub_pick; (repeat (first | exact Has.here | apply Has.there)); skip) | apply Sub.drop))), ?c28⟩)) (at_w 13 rfl (op_bs1 rfl rfl rfl fun b13 => ⟨(by first | exact Go.Sx.Heap.le.refl _ | exact hl3), (by (repeat (first | exact Sub.refl _ | exact Sub.nil _ | (apply sub_pick; (repeat (first | exact Has.here | apply Has.there)); skip) | apply Sub.drop))), ?c29⟩))
          case c27 =>
            subst eB
            obtain rfl : H3 = H6 := eH.symm
            clear hl6 eH
            refine ⟨(by (repeat (first | exact Sub.refl _ | exact Sub.nil _ | (apply sub_pick; (repeat (first | exact Has.here | apply Has.there)); skip) | apply Sub.drop))), ?_⟩
            refine any_3 9 13 14 (at_w 9 rfl (op_bs1 rfl rfl rfl fun b9 => ⟨(by first | exact Go.Sx.Heap.le.refl _ | exact hl3), (by (repeat (first | exact Sub.refl _ | exact Sub.nil _ | (apply sub_pick; (repeat (first | exact Has.here | apply Has.there)); skip) | apply Sub.drop))), ?c30⟩)) (at_w 13 rfl (op_bs1 rfl rfl rfl fun b13 => ⟨(by first | exact Go.Sx.Heap.le.refl _ | exact hl3), (by (repeat (first | exact Sub.refl _ | exact Sub.nil _ | (apply sub_pick; (repeat (first | exact Has.here | apply Has.there)); skip) | apply Sub.drop))), ?c31⟩)) (at_s 14 rfl rfl rfl rfl (by simp) rfl ⟨(by (repeat (first | exact Sub.refl _ | exact Sub.nil _ | (apply sub_pick; (repeat (first | exact Has.here | apply Has.there)); skip) | apply Sub.drop))), ?c32⟩)
            case c30 =>
              skip
              refine any_2 13 14 (at_w 13 rfl (op_bs1 rfl rfl rfl fun b13 => ⟨(by first | exact Go.Sx.Heap.le.refl _ | exact hl3), (by (repeat (first | exact Sub.refl _ | exact Sub.nil _ | (apply sub_pick; (repeat (first | exact Has.here | apply Has.there)); skip) | apply Sub.drop))), ?c33⟩)) (at_s 14 rfl rfl rfl rfl (by simp) rfl ⟨(by (repeat (first | exact Sub.refl _ | exact Sub.nil _ | (apply sub_pick; (repeat (first | exact Has.here | apply Has.there)); skip) | apply Sub.drop))), ?c34⟩)
              case c33 =>
                skip
                refine any_sta 14 rfl rfl rfl rfl (by simp) rfl ⟨(by (repeat (first | exact Sub.refl _ | exact Sub.nil _ | (apply sub_pick; (repeat (first | exact Has.here | apply Has.there)); skip) | apply Sub.drop))), ?_⟩
                refine stepY 15 ?_
                refine stepY 16 ?_
                refine any_rest rfl ?_
                refine walk ?_
                refine out_L (L' := ownS rO16 5 32 133 H3 (.slice (some ⟨b13, 0, none⟩) 1 1) [ocR ⟨x1, x2, x3⟩ true false] :: row b9 63 [I 4, I x1, I x2, I x3, I 0, nilS, nilS, .bool false, .slice e1 ps.length d1] :: ownS rMessage 19 216 53 H3 r3 (againR m.Node (openR ⟨⟨x1, x2, x3⟩, false, bg, ps, wk, hd⟩) ps.length) :: row p4 35 [I m.Node, I m.Life, I m.Count, .slice bq (putR (openR ⟨⟨x1, x2, x3⟩, false, bg, ps, wk, hd⟩) m.Txns).length cq] :: R) ?_ ?_
                · refine Sub.trans ?_ (own1 (x := ocR ⟨x1, x2, x3⟩ true false) ⟨rfl, q1, q2, q3⟩ c32)
                  (repeat (first | exact Sub.refl _ | exact Sub.nil _ | (apply sub_pick; (repeat (first | exact Has.here | apply Has.there)); skip) | apply Sub.drop))
                refine out_freeze (.slice (some ⟨b13, 0, none⟩) 1 1) fun H7 hl7 hso => ?_
                refine out_freeze r3 fun H8 hl8 hsm => ?_
                refine out_L (L' := ownS rRec 9 120 63 H8 (.slice (some ⟨b9, 0, none⟩) 1 1) [recC ⟨x1, x2, x3⟩ ps] :: row p4 35 [I m.Node, I m.Life, I m.Count, .slice bq (putR (openR ⟨⟨x1, x2, x3⟩, false, bg, ps, wk, hd⟩) m.Txns).length cq] :: R) ?_ ?_
                · refine Sub.trans ?_ (own1 (x := recC ⟨x1, x2, x3⟩ ps) (recC_reads ⟨q1, q2, q3⟩ (q5.mono (hl3.trans (hl7.trans hl8)))) c120)
                  (repeat (first | exact Sub.refl _ | exact Sub.nil _ | (apply sub_pick; (repeat (first | exact Has.here | apply Has.there)); skip) | apply Sub.drop))
                refine out_freeze (.slice (some ⟨b9, 0, none⟩) 1 1) fun H9 hl9 hsr => ?_
                refine fin0 ?_
                exact ⟨_, { m with Txns := putR (openR ⟨⟨x1, x2, x3⟩, false, bg, ps, wk, hd⟩) m.Txns }, _, _, _, _, _, _, rfl, ⟨_, rfl, f1, f2, f3, hsp.mono (hl7.trans (hl8.trans hl9))⟩, hsm.mono hl9, hsr, hso.mono (hl8.trans hl9), hct, rfl⟩
              case c34 =>
                skip
                refine stepY 15 ?_
                refine stepY 16 ?_
                refine any_w 13 rfl (op_bs1 rfl rfl rfl fun b13 => ⟨(by first | exact Go.Sx.Heap.le.refl _ | exact hl3), (by (repeat (first | exact Sub.refl _ | exact Sub.nil _ | (apply sub_pick; (repeat (first | exact Has.here | apply Has.there)); skip) | apply Sub.drop))), ?_⟩)
                refine any_rest rfl ?_
                refine walk ?_
                refine out_L (L' := ownS rO16 5 32 133 H3 (.slice (some ⟨b13, 0, none⟩) 1 1) [ocR ⟨x1, x2, x3⟩ true false] :: row b9 63 [I 4, I x1, I x2, I x3, I 0, nilS, nilS, .bool false, .slice e1 ps.length d1] :: ownS rMessage 19 216 53 H3 r3 (againR m.Node (openR ⟨⟨x1, x2, x3⟩, false, bg, ps, wk, hd⟩) ps.length) :: row p4 35 [I m.Node, I m.Life, I m.Count, .slice bq (putR (openR ⟨⟨x1, x2, x3⟩, false, bg, ps, wk, hd⟩) m.Txns).length cq] :: R) ?_ ?_
                · refine Sub.trans ?_ (own1 (x := ocR ⟨x1, x2, x3⟩ true false) ⟨rfl, q1, q2, q3⟩ c32)
                  (repeat (first | exact Sub.refl _ | exact Sub.nil _ | (apply sub_pick; (repeat (first | exact Has.here | apply Has.there)); skip) | apply Sub.drop))
                refine out_freeze (.slice (some ⟨b13, 0, none⟩) 1 1) fun H7 hl7 hso => ?_
                refine out_freeze r3 fun H8 hl8 hsm => ?_
                refine out_L (L' := ownS rRec 9 120 63 H8 (.slice (some ⟨b9, 0, none⟩) 1 1) [recC ⟨x1, x2, x3⟩ ps] :: row p4 35 [I m.Node, I m.Life, I m.Count, .slice bq (putR (openR ⟨⟨x1, x2, x3⟩, false, bg, ps, wk, hd⟩) m.Txns).length cq] :: R) ?_ ?_
                · refine Sub.trans ?_ (own1 (x := recC ⟨x1, x2, x3⟩ ps) (recC_reads ⟨q1, q2, q3⟩ (q5.mono (hl3.trans (hl7.trans hl8)))) c120)
                  (repeat (first | exact Sub.refl _ | exact Sub.nil _ | (apply sub_pick; (repeat (first | exact Has.here | apply Has.there)); skip) | apply Sub.drop))
                refine out_freeze (.slice (some ⟨b9, 0, none⟩) 1 1) fun H9 hl9 hsr => ?_
                refine fin0 ?_
                exact ⟨_, { m with Txns := putR (openR ⟨⟨x1, x2, x3⟩, false, bg, ps, wk, hd⟩) m.Txns }, _, _, _, _, _, _, rfl, ⟨_, rfl, f1, f2, f3, hsp.mono (hl7.trans (hl8.trans hl9))⟩, hsm.mono hl9, hsr, hso.mono (hl8.trans hl9), hct, rfl⟩
            case c31 =>
              skip
              refine any_2 9 14 (at_w 9 rfl (op_bs1 rfl rfl rfl fun b9 => ⟨(by first | exact Go.Sx.Heap.le.refl _ | exact hl3), (by (repeat (first | exact Sub.refl _ | exact Sub.nil _ | (apply sub_pick; (repeat (first | exact Has.here | apply Has.there)); skip) | apply Sub.drop))), ?c35⟩)) (at_s 14 rfl rfl rfl rfl (by simp) rfl ⟨(by (repeat (first | exact Sub.refl _ | exact Sub.nil _ | (apply sub_pick; (repeat (first | exact Has.here | apply Has.there)); skip) | apply Sub.drop))), ?c36⟩)
              case c35 =>
                skip
                refine any_sta 14 rfl rfl rfl rfl (by simp) rfl ⟨(by (repeat (first | exact Sub.refl _ | exact Sub.nil _ | (apply sub_pick; (repeat (first | exact Has.here | apply Has.there)); skip) | apply Sub.drop))), ?_⟩
                refine stepY 15 ?_
                refine stepY 16 ?_
                refine any_rest rfl ?_
                refine walk ?_
                refine out_L (L' := ownS rO16 5 32 133 H3 (.slice (some ⟨b13, 0, none⟩) 1 1) [ocR ⟨x1, x2, x3⟩ true false] :: row b9 63 [I 4, I x1, I x2, I x3, I 0, nilS, nilS, .bool false, .slice e1 ps.length d1] :: ownS rMessage 19 216 53 H3 r3 (againR m.Node (openR ⟨⟨x1, x2, x3⟩, false, bg, ps, wk, hd⟩) ps.length) :: row p4 35 [I m.Node, I m.Life, I m.Count, .slice bq (putR (openR ⟨⟨x1, x2, x3⟩, false, bg, ps, wk, hd⟩) m.Txns).length cq] :: R) ?_ ?_
                · refine Sub.trans ?_ (own1 (x := ocR ⟨x1, x2, x3⟩ true false) ⟨rfl, q1, q2, q3⟩ c32)
                  (repeat (first | exact Sub.refl _ | exact Sub.nil _ | (apply sub_pick; (repeat (first | exact Has.here | apply Has.there)); skip) | apply Sub.drop))
                refine out_freeze (.slice (some ⟨b13, 0, none⟩) 1 1) fun H7 hl7 hso => ?_
                refine out_freeze r3 fun H8 hl8 hsm => ?_
                refine out_L (L' := ownS rRec 9 120 63 H8 (.slice (some ⟨b9, 0, none⟩) 1 1) [recC ⟨x1, x2, x3⟩ ps] :: row p4 35 [I m.Node, I m.Life, I m.Count, .slice bq (putR (openR ⟨⟨x1, x2, x3⟩, false, bg, ps, wk, hd⟩) m.Txns).length cq] :: R) ?_ ?_
                · refine Sub.trans ?_ (own1 (x := recC ⟨x1, x2, x3⟩ ps) (recC_reads ⟨q1, q2, q3⟩ (q5.mono (hl3.trans (hl7.trans hl8)))) c120)
                  (repeat (first | exact Sub.refl _ | exact Sub.nil _ | (apply sub_pick; (repeat (first | exact Has.here | apply Has.there)); skip) | apply Sub.drop))
                refine out_freeze (.slice (some ⟨b9, 0, none⟩) 1 1) fun H9 hl9 hsr => ?_
                refine fin0 ?_
                exact ⟨_, { m with Txns := putR (openR ⟨⟨x1, x2, x3⟩, false, bg, ps, wk, hd⟩) m.Txns }, _, _, _, _, _, _, rfl, ⟨_, rfl, f1, f2, f3, hsp.mono (hl7.trans (hl8.trans hl9))⟩, hsm.mono hl9, hsr, hso.mono (hl8.trans hl9), hct, rfl⟩
              case c36 =>
                skip
                refine stepY 15 ?_
                refine any_w 9 rfl (op_bs1 rfl rfl rfl fun b9 => ⟨(by first | exact Go.Sx.Heap.le.refl _ | exact hl3), (by (repeat (first | exact Sub.refl _ | exact Sub.nil _ | (apply sub_pick; (repeat (first | exact Has.here | apply Has.there)); skip) | apply Sub.drop))), ?_⟩)
                refine stepY 16 ?_
                refine any_rest rfl ?_
                refine walk ?_
                refine out_L (L' := ownS rO16 5 32 133 H3 (.slice (some ⟨b13, 0, none⟩) 1 1) [ocR ⟨x1, x2, x3⟩ true false] :: row b9 63 [I 4, I x1, I x2, I x3, I 0, nilS, nilS, .bool false, .slice e1 ps.length d1] :: ownS rMessage 19 216 53 H3 r3 (againR m.Node (openR ⟨⟨x1, x2, x3⟩, false, bg, ps, wk, hd⟩) ps.length) :: row p4 35 [I m.Node, I m.Life, I m.Count, .slice bq (putR (openR ⟨⟨x1, x2, x3⟩, false, bg, ps, wk, hd⟩) m.Txns).length cq] :: R) ?_ ?_
                · refine Sub.trans ?_ (own1 (x := ocR ⟨x1, x2, x3⟩ true false) ⟨rfl, q1, q2, q3⟩ c32)
                  (repeat (first | exact Sub.refl _ | exact Sub.nil _ | (apply sub_pick; (repeat (first | exact Has.here | apply Has.there)); skip) | apply Sub.drop))
                refine out_freeze (.slice (some ⟨b13, 0, none⟩) 1 1) fun H7 hl7 hso => ?_
                refine out_freeze r3 fun H8 hl8 hsm => ?_
                refine out_L (L' := ownS rRec 9 120 63 H8 (.slice (some ⟨b9, 0, none⟩) 1 1) [recC ⟨x1, x2, x3⟩ ps] :: row p4 35 [I m.Node, I m.Life, I m.Count, .slice bq (putR (openR ⟨⟨x1, x2, x3⟩, false, bg, ps, wk, hd⟩) m.Txns).length cq] :: R) ?_ ?_
                · refine Sub.trans ?_ (own1 (x := recC ⟨x1, x2, x3⟩ ps) (recC_reads ⟨q1, q2, q3⟩ (q5.mono (hl3.trans (hl7.trans hl8)))) c120)
                  (repeat (first | exact Sub.refl _ | exact Sub.nil _ | (apply sub_pick; (repeat (first | exact Has.here | apply Has.there)); skip) | apply Sub.drop))
                refine out_freeze (.slice (some ⟨b9, 0, none⟩) 1 1) fun H9 hl9 hsr => ?_
                refine fin0 ?_
                exact ⟨_, { m with Txns := putR (openR ⟨⟨x1, x2, x3⟩, false, bg, ps, wk, hd⟩) m.Txns }, _, _, _, _, _, _, rfl, ⟨_, rfl, f1, f2, f3, hsp.mono (hl7.trans (hl8.trans hl9))⟩, hsm.mono hl9, hsr, hso.mono (hl8.trans hl9), hct, rfl⟩
            case c32 =>
              skip
              refine stepY 15 ?_
              refine any_2 9 13 (at_w 9 rfl (op_bs1 rfl rfl rfl fun b9 => ⟨(by first | exact Go.Sx.Heap.le.refl _ | exact hl3), (by (repeat (first | exact Sub.refl _ | exact Sub.nil _ | (apply sub_pick; (repeat (first | exact Has.here | apply Has.there)); skip) | apply Sub.drop))), ?c37⟩)) (at_w 13 rfl (op_bs1 rfl rfl rfl fun b13 => ⟨(by first | exact Go.Sx.Heap.le.refl _ | exact hl3), (by (repeat (first | exact Sub.refl _ | exact Sub.nil _ | (apply sub_pick; (repeat (first | exact Has.here | apply Has.there)); skip) | apply Sub.drop))), ?c38⟩))
              case c37 =>
                skip
                refine stepY 16 ?_
                refine any_w 13 rfl (op_bs1 rfl rfl rfl fun b13 => ⟨(by first | exact Go.Sx.Heap.le.refl _ | exact hl3), (by (repeat (first | exact Sub.refl _ | exact Sub.nil _ | (apply sub_pick; (repeat (first | exact Has.here | apply Has.there)); skip) | apply Sub.drop))), ?_⟩)
                refine any_rest rfl ?_
                refine walk ?_
                refine out_L (L' := ownS rO16 5 32 133 H3 (.slice (some ⟨b13, 0, none⟩) 1 1) [ocR ⟨x1, x2, x3⟩ true false] :: row b9 63 [I 4, I x1, I x2, I x3, I 0, nilS, nilS, .bool false, .slice e1 ps.length d1] :: ownS rMessage 19 216 53 H3 r3 (againR m.Node (openR ⟨⟨x1, x2, x3⟩, false, bg, ps, wk, hd⟩) ps.length) :: row p4 35 [I m.Node, I m.Life, I m.Count, .slice bq (putR (openR ⟨⟨x1, x2, x3⟩, false, bg, ps, wk, hd⟩) m.Txns).length cq] :: R) ?_ ?_
                · refine Sub.trans ?_ (own1 (x := ocR ⟨x1, x2, x3⟩ true false) ⟨rfl, q1, q2, q3⟩ c32)
                  (repeat (first | exact Sub.refl _ | exact Sub.nil _ | (apply sub_pick; (repeat (first | exact Has.here | apply Has.there)); skip) | apply Sub.drop))
                refine out_freeze (.slice (some ⟨b13, 0, none⟩) 1 1) fun H7 hl7 hso => ?_
                refine out_freeze r3 fun H8 hl8 hsm => ?_
                refine out_L (L' := ownS rRec 9 120 63 H8 (.slice (some ⟨b9, 0, none⟩) 1 1) [recC ⟨x1, x2, x3⟩ ps] :: row p4 35 [I m.Node, I m.Life, I m.Count, .slice bq (putR (openR ⟨⟨x1, x2, x3⟩, false, bg, ps, wk, hd⟩) m.Txns).length cq] :: R) ?_ ?_
                · refine Sub.trans ?_ (own1 (x := recC ⟨x1, x2, x3⟩ ps) (recC_reads ⟨q1, q2, q3⟩ (q5.mono (hl3.trans (hl7.trans hl8)))) c120)
                  (repeat (first | exact Sub.refl _ | exact Sub.nil _ | (apply sub_pick; (repeat (first | exact Has.here | apply Has.there)); skip) | apply Sub.drop))
                refine out_freeze (.slice (some ⟨b9, 0, none⟩) 1 1) fun H9 hl9 hsr => ?_
                refine fin0 ?_
                exact ⟨_, { m with Txns := putR (openR ⟨⟨x1, x2, x3⟩, false, bg, ps, wk, hd⟩) m.Txns }, _, _, _, _, _, _, rfl, ⟨_, rfl, f1, f2, f3, hsp.mono (hl7.trans (hl8.trans hl9))⟩, hsm.mono hl9, hsr, hso.mono (hl8.trans hl9), hct, rfl⟩
              case c38 =>
                skip
                refine any_w 9 rfl (op_bs1 rfl rfl rfl fun b9 => ⟨(by first | exact Go.Sx.Heap.le.refl _ | exact hl3), (by (repeat (first | exact Sub.refl _ | exact Sub.nil _ | (apply sub_pick; (repeat (first | exact Has.here | apply Has.there)); skip) | apply Sub.drop))), ?_⟩)
                refine stepY 16 ?_
                refine any_rest rfl ?_
                refine walk ?_
                refine out_L (L' := ownS rO16 5 32 133 H3 (.slice (some ⟨b13, 0, none⟩) 1 1) [ocR ⟨x1, x2, x3⟩ true false] :: row b9 63 [I 4, I x1, I x2, I x3, I 0, nilS, nilS, .bool false, .slice e1 ps.length d1] :: ownS rMessage 19 216 53 H3 r3 (againR m.Node (openR ⟨⟨x1, x2, x3⟩, false, bg, ps, wk, hd⟩) ps.length) :: row p4 35 [I m.Node, I m.Life, I m.Count, .slice bq (putR (openR ⟨⟨x1, x2, x3⟩, false, bg, ps, wk, hd⟩) m.Txns).length cq] :: R) ?_ ?_
                · refine Sub.trans ?_ (own1 (x := ocR ⟨x1, x2, x3⟩ true false) ⟨rfl, q1, q2, q3⟩ c32)
                  (repeat (first | exact Sub.refl _ | exact Sub.nil _ | (apply sub_pick; (repeat (first | exact Has.here | apply Has.there)); skip) | apply Sub.drop))
                refine out_freeze (.slice (some ⟨b13, 0, none⟩) 1 1) fun H7 hl7 hso => ?_
                refine out_freeze r3 fun H8 hl8 hsm => ?_
                refine out_L (L' := ownS rRec 9 120 63 H8 (.slice (some ⟨b9, 0, none⟩) 1 1) [recC ⟨x1, x2, x3⟩ ps] :: row p4 35 [I m.Node, I m.Life, I m.Count, .slice bq (putR (openR ⟨⟨x1, x2, x3⟩, false, bg, ps, wk, hd⟩) m.Txns).length cq] :: R) ?_ ?_
                · refine Sub.trans ?_ (own1 (x := recC ⟨x1, x2, x3⟩ ps) (recC_reads ⟨q1, q2, q3⟩ (q5.mono (hl3.trans (hl7.trans hl8)))) c120)
                  (repeat (first | exact Sub.refl _ | exact Sub.nil _ | (apply sub_pick; (repeat (first | exact Has.here | apply Has.there)); skip) | apply Sub.drop))
                refine out_freeze (.slice (some ⟨b9, 0, none⟩) 1 1) fun H9 hl9 hsr => ?_
                refine fin0 ?_
                exact ⟨_, { m with Txns := putR (openR ⟨⟨x1, x2, x3⟩, false, bg, ps, wk, hd⟩) m.Txns }, _, _, _, _, _, _, rfl, ⟨_, rfl, f1, f2, f3, hsp.mono (hl7.trans (hl8.trans hl9))⟩, hsm.mono hl9, hsr, hso.mono (hl8.trans hl9), hct, rfl⟩
          case c28 =>
            skip
            refine any_2 3 13 (at_call 3 rfl rfl (rAgainC_spec (W0 := W0) (H := H3) (m := ⟨m.Node, m.Life, m.Count, putR (openR ⟨⟨x1, x2, x3⟩, false, bg, ps, wk, hd⟩) m.Txns⟩) (t := openR ⟨⟨x1, x2, x3⟩, false, bg, ps, wk, hd⟩) ⟨_, rfl, f1, f2, f3, hsp⟩ hcO (by unfold openR; simp) (fun h => by cases h) okn) fun r3 H6 B hl6 ⟨eB, eH⟩ => ?c39) (at_w 13 rfl (op_bs1 rfl rfl rfl fun b13 => ⟨(by first | exact Go.Sx.Heap.le.refl _ | exact hl3), (by (repeat (first | exact Sub.refl _ | exact Sub.nil _ | (apply sub_pick; (repeat (first | exact Has.here | apply Has.there)); skip) | apply Sub.drop))), ?c40⟩))
            case c39 =>
              subst eB
              obtain rfl : H3 = H6 := eH.symm
              clear hl6 eH
              refine ⟨(by (repeat (first | exact Sub.refl _ | exact Sub.nil _ | (apply sub_pick; (repeat (first | exact Has.here | apply Has.there)); skip) | apply Sub.drop))), ?_⟩
              refine any_2 13 14 (at_w 13 rfl (op_bs1 rfl rfl rfl fun b13 => ⟨(by first | exact Go.Sx.Heap.le.refl _ | exact hl3), (by (repeat (first | exact Sub.refl _ | exact Sub.nil _ | (apply sub_pick; (repeat (first | exact Has.here | apply Has.there)); skip) | apply Sub.drop))), ?c41⟩)) (at_s 14 rfl rfl rfl rfl (by simp) rfl ⟨(by (repeat (first | exact Sub.refl _ | exact Sub.nil _ | (apply sub_pick; (repeat (first | exact Has.here | apply Has.there)); skip) | apply Sub.drop))), ?c42⟩)
              case c41 =>
                skip
                refine any_sta 14 rfl rfl rfl rfl (by simp) rfl ⟨(by (repeat (first | exact Sub.refl _ | exact Sub.nil _ | (apply sub_pick; (repeat (first | exact Has.here | apply Has.there)); skip) | apply Sub.drop))), ?_⟩
                refine stepY 15 ?_
                refine stepY 16 ?_
                refine any_rest rfl ?_
                refine walk ?_
                refine out_L (L' := ownS rO16 5 32 133 H3 (.slice (some ⟨b13, 0, none⟩) 1 1) [ocR ⟨x1, x2, x3⟩ true false] :: row b9 63 [I 4, I x1, I x2, I x3, I 0, nilS, nilS, .bool false, .slice e1 ps.length d1] :: ownS rMessage 19 216 53 H3 r3 (againR m.Node (openR ⟨⟨x1, x2, x3⟩, false, bg, ps, wk, hd⟩) ps.length) :: row p4 35 [I m.Node, I m.Life, I m.Count, .slice bq (putR (openR ⟨⟨x1, x2, x3⟩, false, bg, ps, wk, hd⟩) m.Txns).length cq] :: R) ?_ ?_
                · refine Sub.trans ?_ (own1 (x := ocR ⟨x1, x2, x3⟩ true false) ⟨rfl, q1, q2, q3⟩ c32)
                  (repeat (first | exact Sub.refl _ | exact Sub.nil _ | (apply sub_pick; (repeat (first | exact Has.here | apply Has.there)); skip) | apply Sub.drop))
                refine out_freeze (.slice (some ⟨b13, 0, none⟩) 1 1) fun H7 hl7 hso => ?_
                refine out_freeze r3 fun H8 hl8 hsm => ?_
                refine out_L (L' := ownS rRec 9 120 63 H8 (.slice (some ⟨b9, 0, none⟩) 1 1) [recC ⟨x1, x2, x3⟩ ps] :: row p4 35 [I m.Node, I m.Life, I m.Count, .slice bq (putR (openR ⟨⟨x1, x2, x3⟩, false, bg, ps, wk, hd⟩) m.Txns).length cq] :: R) ?_ ?_
                · refine Sub.trans ?_ (own1 (x := recC ⟨x1, x2, x3⟩ ps) (recC_reads ⟨q1, q2, q3⟩ (q5.mono (hl3.trans (hl7.trans hl8)))) c120)
                  (repeat (first | exact Sub.refl _ | exact Sub.nil _ | (apply sub_pick; (repeat (first | exact Has.here | apply Has.there)); skip) | apply Sub.drop))
                refine out_freeze (.slice (some ⟨b9, 0, none⟩) 1 1) fun H9 hl9 hsr => ?_
                refine fin0 ?_
                exact ⟨_, { m with Txns := putR (openR ⟨⟨x1, x2, x3⟩, false, bg, ps, wk, hd⟩) m.Txns }, _, _, _, _, _, _, rfl, ⟨_, rfl, f1, f2, f3, hsp.mono (hl7.trans (hl8.trans hl9))⟩, hsm.mono hl9, hsr, hso.mono (hl8.trans hl9), hct, rfl⟩
              case c42 =>
                skip
                refine stepY 15 ?_
                refine stepY 16 ?_
                refine any_w 13 rfl (op_bs1 rfl rfl rfl fun b13 => ⟨(by first | exact Go.Sx.Heap.le.refl _ | exact hl3), (by (repeat (first | exact Sub.refl _ | exact Sub.nil _ | (apply sub_pick; (repeat (first | exact Has.here | apply Has.there)); skip) | apply Sub.drop))), ?_⟩)
                refine any_rest rfl ?_
                refine walk ?_
                refine out_L (L' := ownS rO16 5 32 133 H3 (.slice (some ⟨b13, 0, none⟩) 1 1) [ocR ⟨x1, x2, x3⟩ true false] :: row b9 63 [I 4, I x1, I x2, I x3, I 0, nilS, nilS, .bool false, .slice e1 ps.length d1] :: ownS rMessage 19 216 53 H3 r3 (againR m.Node (openR ⟨⟨x1, x2, x3⟩, false, bg, ps, wk, hd⟩) ps.length) :: row p4 35 [I m.Node, I m.Life, I m.Count, .slice bq (putR (openR ⟨⟨x1, x2, x3⟩, false, bg, ps, wk, hd⟩) m.Txns).length cq] :: R) ?_ ?_
                · refine Sub.trans ?_ (own1 (x := ocR ⟨x1, x2, x3⟩ true false) ⟨rfl, q1, q2, q3⟩ c32)
                  (repeat (first | exact Sub.refl _ | exact Sub.nil _ | (apply sub_pick; (repeat (first | exact Has.here | apply Has.there)); skip) | apply Sub.drop))
                refine out_freeze (.slice (some ⟨b13, 0, none⟩) 1 1) fun H7 hl7 hso => ?_
                refine out_freeze r3 fun H8 hl8 hsm => ?_
                refine out_L (L' := ownS rRec 9 120 63 H8 (.slice (some ⟨b9, 0, none⟩) 1 1) [recC ⟨x1, x2, x3⟩ ps] :: row p4 35 [I m.Node, I m.Life, I m.Count, .slice bq (putR (openR ⟨⟨x1, x2, x3⟩, false, bg, ps, wk, hd⟩) m.Txns).length cq] :: R) ?_ ?_
                · refine Sub.trans ?_ (own1 (x := recC ⟨x1, x2, x3⟩ ps) (recC_reads ⟨q1, q2, q3⟩ (q5.mono (hl3.trans (hl7.trans hl8)))) c120)
                  (repeat (first | exact Sub.refl _ | exact Sub.nil _ | (apply sub_pick; (repeat (first | exact Has.here | apply Has.there)); skip) | apply Sub.drop))
                refine out_freeze (.slice (some ⟨b9, 0, none⟩) 1 1) fun H9 hl9 hsr => ?_
                refine fin0 ?_
                exact ⟨_, { m with Txns := putR (openR ⟨⟨x1, x2, x3⟩, false, bg, ps, wk, hd⟩) m.Txns }, _, _, _, _, _, _, rfl, ⟨_, rfl, f1, f2, f3, hsp.mono (hl7.trans (hl8.trans hl9))⟩, hsm.mono hl9, hsr, hso.mono (hl8.trans hl9), hct, rfl⟩
            case c40 =>
              skip
              refine any_call 3 rfl rfl (rAgainC_spec (W0 := W0) (H := H3) (m := ⟨m.Node, m.Life, m.Count, putR (openR ⟨⟨x1, x2, x3⟩, false, bg, ps, wk, hd⟩) m.Txns⟩) (t := openR ⟨⟨x1, x2, x3⟩, false, bg, ps, wk, hd⟩) ⟨_, rfl, f1, f2, f3, hsp⟩ hcO (by unfold openR; simp) (fun h => by cases h) okn) fun r3 H6 B hl6 ⟨eB, eH⟩ => ?_
              subst eB
              obtain rfl : H3 = H6 := eH.symm
              clear hl6 eH
              refine ⟨(by (repeat (first | exact Sub.refl _ | exact Sub.nil _ | (apply sub_pick; (repeat (first | exact Has.here | apply Has.there)); skip) | apply Sub.drop))), ?_⟩
              refine any_sta 14 rfl rfl rfl rfl (by simp) rfl ⟨(by (repeat (first | exact Sub.refl _ | exact Sub.nil _ | (apply sub_pick; (repeat (first | exact Has.here | apply Has.there)); skip) | apply Sub.drop))), ?_⟩
              refine stepY 15 ?_
              refine stepY 16 ?_
              refine any_rest rfl ?_
              refine walk ?_
              refine out_L (L' := ownS rO16 5 32 133 H3 (.slice (some ⟨b13, 0, none⟩) 1 1) [ocR ⟨x1, x2, x3⟩ true false] :: row b9 63 [I 4, I x1, I x2, I x3, I 0, nilS, nilS, .bool false, .slice e1 ps.length d1] :: ownS rMessage 19 216 53 H3 r3 (againR m.Node (openR ⟨⟨x1, x2, x3⟩, false, bg, ps, wk, hd⟩) ps.length) :: row p4 35 [I m.Node, I m.Life, I m.Count, .slice bq (putR (openR ⟨⟨x1, x2, x3⟩, false, bg, ps, wk, hd⟩) m.Txns).length cq] :: R) ?_ ?_
              · refine Sub.trans ?_ (own1 (x := ocR ⟨x1, x2, x3⟩ true false) ⟨rfl, q1, q2, q3⟩ c32)
                (repeat (first | exact Sub.refl _ | exact Sub.nil _ | (apply sub_pick; (repeat (first | exact Has.here | apply Has.there)); skip) | apply Sub.drop))
              refine out_freeze (.slice (some ⟨b13, 0, none⟩) 1 1) fun H7 hl7 hso => ?_
              refine out_freeze r3 fun H8 hl8 hsm => ?_
              refine out_L (L' := ownS rRec 9 120 63 H8 (.slice (some ⟨b9, 0, none⟩) 1 1) [recC ⟨x1, x2, x3⟩ ps] :: row p4 35 [I m.Node, I m.Life, I m.Count, .slice bq (putR (openR ⟨⟨x1, x2, x3⟩, false, bg, ps, wk, hd⟩) m.Txns).length cq] :: R) ?_ ?_
              · refine Sub.trans ?_ (own1 (x := recC ⟨x1, x2, x3⟩ ps) (recC_reads ⟨q1, q2, q3⟩ (q5.mono (hl3.trans (hl7.trans hl8)))) c120)
                (repeat (first | exact Sub.refl _ | exact Sub.nil _ | (apply sub_pick; (repeat (first | exact Has.here | apply Has.there)); skip) | apply Sub.drop))
              refine out_freeze (.slice (some ⟨b9, 0, none⟩) 1 1) fun H9 hl9 hsr => ?_
              refine fin0 ?_
              exact ⟨_, { m with Txns := putR (openR ⟨⟨x1, x2, x3⟩, false, bg, ps, wk, hd⟩) m.Txns }, _, _, _, _, _, _, rfl, ⟨_, rfl, f1, f2, f3, hsp.mono (hl7.trans (hl8.trans hl9))⟩, hsm.mono hl9, hsr, hso.mono (hl8.trans hl9), hct, rfl⟩
          case c29 =>
            skip
            refine any_2 3 9 (at_call 3 rfl rfl (rAgainC_spec (W0 := W0) (H := H3) (m := ⟨m.Node, m.Life, m.Count, putR (openR ⟨⟨x1, x2, x3⟩, false, bg, ps, wk, hd⟩) m.Txns⟩) (t := openR ⟨⟨x1, x2, x3⟩, false, bg, ps, wk, hd⟩) ⟨_, rfl, f1, f2, f3, hsp⟩ hcO (by unfold openR; simp) (fun h => by cases h) okn) fun r3 H6 B hl6 ⟨eB, eH⟩ => ?c43) (at_w 9 rfl (op_bs1 rfl rfl rfl fun b9 => ⟨(by first | exact Go.Sx.Heap.le.refl _ | exact hl3), (by (repeat (first | exact Sub.refl _ | exact Sub.nil _ | (apply sub_pick; (repeat (first | exact Has.here | apply Has.there)); skip) | apply Sub.drop))), ?c44⟩))
            case c43 =>
              subst eB
              obtain rfl : H3 = H6 := eH.symm
              clear hl6 eH
              refine ⟨(by (repeat (first | exact Sub.refl _ | exact Sub.nil _ | (apply sub_pick; (repeat (first | exact Has.here | apply Has.there)); skip) | apply Sub.drop))), ?_⟩
              refine any_2 9 14 (at_w 9 rfl (op_bs1 rfl rfl rfl fun b9 => ⟨(by first | exact Go.Sx.Heap.le.refl _ | exact hl3), (by (repeat (first | exact Sub.refl _ | exact Sub.nil _ | (apply sub_pick; (repeat (first | exact Has.here | apply Has.there)); skip) | apply Sub.drop))), ?c45⟩)) (at_s 14 rfl rfl rfl rfl (by simp) rfl ⟨(by (repeat (first | exact Sub.refl _ | exact Sub.nil _ | (apply sub_pick; (repeat (first | exact Has.here | apply Has.there)); skip) | apply Sub.drop))), ?c46⟩)
              case c45 =>
                skip
                refine any_sta 14 rfl rfl rfl rfl (by simp) rfl ⟨(by (repeat (first | exact Sub.refl _ | exact Sub.nil _ | (apply sub_pick; (repeat (first | exact Has.here | apply Has.there)); skip) | apply Sub.drop))), ?_⟩
                refine stepY 15 ?_
                refine stepY 16 ?_
                refine any_rest rfl ?_
                refine walk ?_
                refine out_L (L' := ownS rO16 5 32 133 H3 (.slice (some ⟨b13, 0, none⟩) 1 1) [ocR ⟨x1, x2, x3⟩ true false] :: row b9 63 [I 4, I x1, I x2, I x3, I 0, nilS, nilS, .bool false, .slice e1 ps.length d1] :: ownS rMessage 19 216 53 H3 r3 (againR m.Node (openR ⟨⟨x1, x2, x3⟩, false, bg, ps, wk, hd⟩) ps.length) :: row p4 35 [I m.Node, I m.Life, I m.Count, .slice bq (putR (openR ⟨⟨x1, x2, x3⟩, false, bg, ps, wk, hd⟩) m.Txns).length cq] :: R) ?_ ?_
                · refine Sub.trans ?_ (own1 (x := ocR ⟨x1, x2, x3⟩ true false) ⟨rfl, q1, q2, q3⟩ c32)
                  (repeat (first | exact Sub.refl _ | exact Sub.nil _ | (apply sub_pick; (repeat (first | exact Has.here | apply Has.there)); skip) | apply Sub.drop))
                refine out_freeze (.slice (some ⟨b13, 0, none⟩) 1 1) fun H7 hl7 hso => ?_
                refine out_freeze r3 fun H8 hl8 hsm => ?_
                refine out_L (L' := ownS rRec 9 120 63 H8 (.slice (some ⟨b9, 0, none⟩) 1 1) [recC ⟨x1, x2, x3⟩ ps] :: row p4 35 [I m.Node, I m.Life, I m.Count, .slice bq (putR (openR ⟨⟨x1, x2, x3⟩, false, bg, ps, wk, hd⟩) m.Txns).length cq] :: R) ?_ ?_
                · refine Sub.trans ?_ (own1 (x := recC ⟨x1, x2, x3⟩ ps) (recC_reads ⟨q1, q2, q3⟩ (q5.mono (hl3.trans (hl7.trans hl8)))) c120)
                  (repeat (first | exact Sub.refl _ | exact Sub.nil _ | (apply sub_pick; (repeat (first | exact Has.here | apply Has.there)); skip) | apply Sub.drop))
                refine out_freeze (.slice (some ⟨b9, 0, none⟩) 1 1) fun H9 hl9 hsr => ?_
                refine fin0 ?_
                exact ⟨_, { m with Txns := putR (openR ⟨⟨x1, x2, x3⟩, false, bg, ps, wk, hd⟩) m.Txns }, _, _, _, _, _, _, rfl, ⟨_, rfl, f1, f2, f3, hsp.mono (hl7.trans (hl8.trans hl9))⟩, hsm.mono hl9, hsr, hso.mono (hl8.trans hl9), hct, rfl⟩
              case c46 =>
                skip
                refine stepY 15 ?_
                refine any_w 9 rfl (op_bs1 rfl rfl rfl fun b9 => ⟨(by first | exact Go.Sx.Heap.le.refl _ | exact hl3), (by (repeat (first | exact Sub.refl _ | exact Sub.nil _ | (apply sub_pick; (repeat (first | exact Has.here | apply Has.there)); skip) | apply Sub.drop))), ?_⟩)
                refine stepY 16 ?_
                refine any_rest rfl ?_
                refine walk ?_
                refine out_L (L' := ownS rO16 5 32 133 H3 (.slice (some ⟨b13, 0, none⟩) 1 1) [ocR ⟨x1, x2, x3⟩ true false] :: row b9 63 [I 4, I x1, I x2, I x3, I 0, nilS, nilS, .bool false, .slice e1 ps.length d1] :: ownS rMessage 19 216 53 H3 r3 (againR m.Node (openR ⟨⟨x1, x2, x3⟩, false, bg, ps, wk, hd⟩) ps.length) :: row p4 35 [I m.Node, I m.Life, I m.Count, .slice bq (putR (openR ⟨⟨x1, x2, x3⟩, false, bg, ps, wk, hd⟩) m.Txns).length cq] :: R) ?_ ?_
                · refine Sub.trans ?_ (own1 (x := ocR ⟨x1, x2, x3⟩ true false) ⟨rfl, q1, q2, q3⟩ c32)
                  (repeat (first | exact Sub.refl _ | exact Sub.nil _ | (apply sub_pick; (repeat (first | exact Has.here | apply Has.there)); skip) | apply Sub.drop))
                refine out_freeze (.slice (some ⟨b13, 0, none⟩) 1 1) fun H7 hl7 hso => ?_
                refine out_freeze r3 fun H8 hl8 hsm => ?_
                refine out_L (L' := ownS rRec 9 120 63 H8 (.slice (some ⟨b9, 0, none⟩) 1 1) [recC ⟨x1, x2, x3⟩ ps] :: row p4 35 [I m.Node, I m.Life, I m.Count, .slice bq (putR (openR ⟨⟨x1, x2, x3⟩, false, bg, ps, wk, hd⟩) m.Txns).length cq] :: R) ?_ ?_
                · refine Sub.trans ?_ (own1 (x := recC ⟨x1, x2, x3⟩ ps) (recC_reads ⟨q1, q2, q3⟩ (q5.mono (hl3.trans (hl7.trans hl8)))) c120)
                  (repeat (first | exact Sub.refl _ | exact Sub.nil _ | (apply sub_pick; (repeat (first | exact Has.here | apply Has.there)); skip) | apply Sub.drop))
                refine out_freeze (.slice (some ⟨b9, 0, none⟩) 1 1) fun H9 hl9 hsr => ?_
                refine fin0 ?_
                exact ⟨_, { m with Txns := putR (openR ⟨⟨x1, x2, x3⟩, false, bg, ps, wk, hd⟩) m.Txns }, _, _, _, _, _, _, rfl, ⟨_, rfl, f1, f2, f3, hsp.mono (hl7.trans (hl8.trans hl9))⟩, hsm.mono hl9, hsr, hso.mono (hl8.trans hl9), hct, rfl⟩
            case c44 =>
              skip
              refine any_call 3 rfl rfl (rAgainC_spec (W0 := W0) (H := H3) (m := ⟨m.Node, m.Life, m.Count, putR (openR ⟨⟨x1, x2, x3⟩, false, bg, ps, wk, hd⟩) m.Txns⟩) (t := openR ⟨⟨x1, x2, x3⟩, false, bg, ps, wk, hd⟩) ⟨_, rfl, f1, f2, f3, hsp⟩ hcO (by unfold openR; simp) (fun h => by cases h) okn) fun r3 H6 B hl6 ⟨eB, eH⟩ => ?_
              subst eB
              obtain rfl : H3 = H6 := eH.symm
              clear hl6 eH
              refine ⟨(by (repeat (first | exact Sub.refl _ | exact Sub.nil _ | (apply sub_pick; (repeat (first | exact Has.here | apply Has.there)); skip) | apply Sub.drop))), ?_⟩
              refine any_sta 14 rfl rfl rfl rfl (by simp) rfl ⟨(by (repeat (first | exact Sub.refl _ | exact Sub.nil _ | (apply sub_pick; (repeat (first | exact Has.here | apply Has.there)); skip) | apply Sub.drop))), ?_⟩
              refine stepY 15 ?_
              refine stepY 16 ?_
              refine any_rest rfl ?_
              refine walk ?_
              refine out_L (L' := ownS rO16 5 32 133 H3 (.slice (some ⟨b13, 0, none⟩) 1 1) [ocR ⟨x1, x2, x3⟩ true false] :: row b9 63 [I 4, I x1, I x2, I x3, I 0, nilS, nilS, .bool false, .slice e1 ps.length d1] :: ownS rMessage 19 216 53 H3 r3 (againR m.Node (openR ⟨⟨x1, x2, x3⟩, false, bg, ps, wk, hd⟩) ps.length) :: row p4 35 [I m.Node, I m.Life, I m.Count, .slice bq (putR (openR ⟨⟨x1, x2, x3⟩, false, bg, ps, wk, hd⟩) m.Txns).length cq] :: R) ?_ ?_
              · refine Sub.trans ?_ (own1 (x := ocR ⟨x1, x2, x3⟩ true false) ⟨rfl, q1, q2, q3⟩ c32)
                (repeat (first | exact Sub.refl _ | exact Sub.nil _ | (apply sub_pick; (repeat (first | exact Has.here | apply Has.there)); skip) | apply Sub.drop))
              refine out_freeze (.slice (some ⟨b13, 0, none⟩) 1 1) fun H7 hl7 hso => ?_
              refine out_freeze r3 fun H8 hl8 hsm => ?_
              refine out_L (L' := ownS rRec 9 120 63 H8 (.slice (some ⟨b9, 0, none⟩) 1 1) [recC ⟨x1, x2, x3⟩ ps] :: row p4 35 [I m.Node, I m.Life, I m.Count, .slice bq (putR (openR ⟨⟨x1, x2, x3⟩, false, bg, ps, wk, hd⟩) m.Txns).length cq] :: R) ?_ ?_
              · refine Sub.trans ?_ (own1 (x := recC ⟨x1, x2, x3⟩ ps) (recC_reads ⟨q1, q2, q3⟩ (q5.mono (hl3.trans (hl7.trans hl8)))) c120)
                (repeat (first | exact Sub.refl _ | exact Sub.nil _ | (apply sub_pick; (repeat (first | exact Has.here | apply Has.there)); skip) | apply Sub.drop))
              refine out_freeze (.slice (some ⟨b9, 0, none⟩) 1 1) fun H9 hl9 hsr => ?_
              refine fin0 ?_
              exact ⟨_, { m with Txns := putR (openR ⟨⟨x1, x2, x3⟩, false, bg, ps, wk, hd⟩) m.Txns }, _, _, _, _, _, _, rfl, ⟨_, rfl, f1, f2, f3, hsp.mono (hl7.trans (hl8.trans hl9))⟩, hsm.mono hl9, hsr, hso.mono (hl8.trans hl9), hct, rfl⟩
    · refine walk ?_
      refine walk ?_
      refine fin0 ?_
      exact ⟨_, _, _, _, _, [], [], [], rfl, ⟨_, rfl, f1, f2, f3, hs1⟩, SlB.nil, SlB.nil, SlB.nil, (.nopart hf k5 _ hjm hx (.inr (.inr ⟨rfl, k2⟩))), rfl⟩
end Go.Proofs.Ythoafjeampbkeaa
