/- Do a move's numbers fit? -/
import Derived.Test.YtpphdbnifbjfmaaGreatDoorJQF
import Derived.Test.YtpphdbnifbjfmaaGreatDoorJQG
import Derived.Test.YtpphdbnifbjfmaaGreatDoorJQI
import Derived.Test.YtpphdbnifbjfmaaGreatDoorJTN
import Derived.Test.YtpphdbnifbjfmaaGreatDoorJTP
set_option linter.unusedVariables false
set_option linter.unusedSimpArgs false
namespace Go.Proofs.YtpphdbnifbjfmaaGreatDoor
open Go Go.Sx Go.Proofs
structure NE where
  pp : Nat
  cp : Nat
  q : PN
abbrev NE.cv (e : NE) : List Value := [ptrC e.pp, ptrC e.cp, I e.q.cs.life]
def rNE : Rd NE := fun _ c e => c = e.cv
instance : RdOk rNE 3 := ⟨fun h => by subst h; rfl, fun h => by subst h; rfl, fun _ h => h⟩
instance : RdFlat rNE := ⟨fun h => h⟩
def ndP (H : Heap) (e : NE) : HProp := partO H e.pp e.q.ps
def ndC (H : Heap) (e : NE) : HProp := coordO H e.cp e.q.cs
abbrev wRow (p : Nat) (nv : Value) (nb : Nat) (now : Int) (lv : Value) : HProp := row p 60 [nv, ptrC nb, I now, lv]
abbrev wNs (nv : Value) (es : List NE) : HProp := ownS rNE 3 24 66 Heap.empty nv es
abbrev wLog (H : Heap) (lv : Value) (l : List PactNote) : HProp := ownS rPactNote 10 128 50 H lv l
def worldO (H : Heap) (p : Nat) (w : PW) : HProp := fun h => ∃ nv nb lv es, big [wRow p nv nb w.now lv, wNs nv es, bigL (ndP H) es, bigL (ndC H) es, Net.netO H (ptrC nb) w.net, wLog H lv w.log] h ∧ w.ns = es.map NE.q
theorem part_mono {H H' : Heap} {p : Nat} {s : PS} {h : Heap} (hl : H.le H') (hp : partO H p s h) : partO H' p s h := by
  have := part_up (L := []) hl h (big_one hp)
  obtain ⟨h1, h2, a, _, _, l1, l2⟩ := this
  obtain ⟨tp, db, hb⟩ := a
  exact ⟨tp, db, Go.Sx.big_mono l1 hb⟩
theorem ndP_up {H H' : Heap} {es : List NE} {L : List HProp} (hl : H.le H') : Sub (bigL (ndP H) es :: L) (bigL (ndP H') es :: L) := fun h ⟨h1, h2, hc, r⟩ => ⟨h1, h2, big_mono (fun _ _ h => part_mono hl h) hc, r⟩
theorem ndC_up {H H' : Heap} {es : List NE} {L : List HProp} (hl : H.le H') : Sub (bigL (ndC H) es :: L) (bigL (ndC H') es :: L) := fun h ⟨h1, h2, hc, r⟩ => ⟨h1, h2, big_mono (fun _ _ h => coord_mono hl h) hc, r⟩
theorem log_up {H H' : Heap} {lv : Value} {l : List PactNote} {L : List HProp} (hl : H.le H') : Sub (wLog H lv l :: L) (wLog H' lv l :: L) := fun h ⟨h1, h2, ⟨cs, ⟨u, v⟩, w⟩, r⟩ => ⟨h1, h2, ⟨cs, ⟨u.mono hl, v⟩, w⟩, r⟩
theorem world_fold {H : Heap} {p nb : Nat} {w : PW} {nv lv : Value} {es : List NE} {L : List HProp} (hn : w.ns = es.map NE.q) : Sub (wRow p nv nb w.now lv :: wNs nv es :: bigL (ndP H) es :: bigL (ndC H) es :: Net.netO H (ptrC nb) w.net :: wLog H lv w.log :: L) (worldO H p w :: L) :=
  sub_fold (B := [wRow p nv nb w.now lv, wNs nv es, bigL (ndP H) es, bigL (ndC H) es, Net.netO H (ptrC nb) w.net, wLog H lv w.log]) (Sub.refl _) fun h hb => ⟨nv, nb, lv, es, hb, hn⟩
theorem world_shut {H1 H2 H3 H4 H' : Heap} {p nb : Nat} {w : PW} {nv lv : Value} {es : List NE} {L : List HProp} (hn : w.ns = es.map NE.q) (h1 : H1.le H') (h2 : H2.le H') (h3 : H3.le H') (h4 : H4.le H') :
    Sub (wRow p nv nb w.now lv :: wNs nv es :: bigL (ndP H1) es :: bigL (ndC H2) es :: Net.netO H3 (ptrC nb) w.net :: wLog H4 lv w.log :: L) (worldO H' p w :: L) :=
  (Sub.cons (Sub.cons ((ndP_up h1).trans (Sub.cons ((ndC_up h2).trans (Sub.cons ((Net.netO_up h3).trans (Sub.cons (log_up h4))))))))).trans (world_fold hn)
theorem wnow_spec {W0 : World} {H : Heap} {p : Nat} {w : PW} :
    Ct Tryz.prog 9 #[ptrC p] W0 H [worldO H p w] (fun r H' B => r = I w.now ∧ B = [worldO H' p w] ∧ H' = H) := by
  refine Ct.go (vs := [ptrC p]) fun R => ?_
  refine ex_open (A := worldO H p w) (σ := Value × Nat × Value × List NE) (B := fun a => [wRow p a.1 a.2.1 (PW.now w) a.2.2.1, wNs a.1 a.2.2.2, bigL (ndP H) a.2.2.2, bigL (ndC H) a.2.2.2, Net.netO H (ptrC a.2.1) (PW.net w), wLog H a.2.2.1 (PW.log w)]) (p := fun a => PW.ns w = a.2.2.2.map NE.q) (by repeat (first | exact Has.here | apply Has.there)) (fun h ⟨nv, nb, lv, es, hb, hk⟩ => ⟨(nv, nb, lv, es), hk, hb⟩) fun ⟨nv, nb, lv, es⟩ hns => ?_
  dsimp only at hns ⊢
  refine walk ?_
  refine finB [worldO H p w] ?_ (hs := ?_)
  · exact ⟨rfl, rfl, rfl⟩
  · refine Sub.trans ?_ (world_fold (nv := nv) (nb := nb) (lv := lv) hns)
    exact subA
theorem wflight_spec {W0 : World} {H : Heap} {p : Nat} {w : PW} :
    Ct Tryz.prog 7 #[ptrC p] W0 H [worldO H p w] (fun r H' B => r = I w.net.length ∧ B = [worldO H' p w] ∧ H' = H) := by
  refine Ct.go (vs := [ptrC p]) fun R => ?_
  refine ex_open (A := worldO H p w) (σ := Value × Nat × Value × List NE) (B := fun a => [wRow p a.1 a.2.1 (PW.now w) a.2.2.1, wNs a.1 a.2.2.2, bigL (ndP H) a.2.2.2, bigL (ndC H) a.2.2.2, Net.netO H (ptrC a.2.1) (PW.net w), wLog H a.2.2.1 (PW.log w)]) (p := fun a => PW.ns w = a.2.2.2.map NE.q) (by repeat (first | exact Has.here | apply Has.there)) (fun h ⟨nv, nb, lv, es, hb, hk⟩ => ⟨(nv, nb, lv, es), hk, hb⟩) fun ⟨nv, nb, lv, es⟩ hns => ?_
  dsimp only at hns ⊢
  refine walk ?_
  refine ops_call rfl rfl (Net.len_spec (W0 := W0) (H := H) (H0 := H) (p := ptrC nb) (ms := w.net) (.refl _)) fun r1 H1 B hl1 ⟨er, eB, eH⟩ => ?_
  subst er eB eH
  refine walk ?_
  refine finB [worldO H1 p w] ?_ (hs := ?_)
  · exact ⟨rfl, rfl, rfl⟩
  · refine Sub.trans ?_ (world_fold (nv := nv) (nb := nb) (lv := lv) hns)
    exact subA
def atV (es : List NE) (a : Int) : Value := match (if 0 ≤ a then es[a.toNat]? else none) with
  | some e => .tuple #[.agg e.cv.toArray, .bool true]
  | none => .tuple #[.agg #[.pointer none, .pointer none, I 0], .bool false]
theorem atV_in {es : List NE} {i : Nat} (h : i < es.length) : atV es i = .tuple #[.agg es[i].cv.toArray, .bool true] := by
  unfold atV; rw [if_pos (by omega), Int.toNat_natCast, List.getElem?_eq_getElem h]
theorem atV_out {es : List NE} {a : Int} (h : ¬ (0 ≤ a ∧ a < es.length)) : atV es a = .tuple #[.agg #[.pointer none, .pointer none, I 0], .bool false] := by
  unfold atV
  split
  · next e he =>
    exfalso
    split at he
    · next h0 => have := (List.getElem?_eq_some_iff.1 he).1; omega
    · cases he
  · rfl
theorem at_spec {W0 : World} {H : Heap} {p nb : Nat} {nv lv : Value} {now a : Int} {es : List NE} :
    Ct Tryz.prog 28 #[ptrC p, I a] W0 H [wRow p nv nb now lv, wNs nv es] (fun r H' B => r = atV es a ∧ B = [wRow p nv nb now lv, wNs nv es] ∧ H' = H) := by
  refine Ct.go (vs := [ptrC p, I a]) fun R => ?_
  refine ex_shape nv fun base cap e _ _ _ => ?_
  subst e
  by_cases h : 0 ≤ a ∧ a < es.length
  · obtain ⟨i, rfl⟩ : ∃ i : Nat, a = i := ⟨a.toNat, by omega⟩
    have hi : i < es.length := by omega
    have hn0 : ¬ (i : Int) < 0 := by omega
    have hn1 : ¬ (es.length : Int) ≤ (i : Int) := by omega
    rw [atV_in hi]
    refine walk ?_
    refine ops_alloc rfl fun p4 _ => ?_
    refine walk ?_
    refine ops_ixo rfl rfl rfl hi fun c hc => ?_
    obtain rfl : c = es[i].cv := hc
    refine walk ?_
    refine finB [wRow p (.slice base es.length cap) nb now lv, wNs (.slice base es.length cap) es] ?_
    exact ⟨rfl, rfl, rfl⟩
  · rw [atV_out h]
    by_cases h0 : a < 0
    · refine walk ?_
      refine ops_alloc rfl fun p4 _ => ?_
      refine walk ?_
      refine finB [wRow p (.slice base es.length cap) nb now lv, wNs (.slice base es.length cap) es] ?_
      exact ⟨rfl, rfl, rfl⟩
    · have hn1 : (es.length : Int) ≤ a := by omega
      refine walk ?_
      refine ops_alloc rfl fun p4 _ => ?_
      refine walk ?_
      refine finB [wRow p (.slice base es.length cap) nb now lv, wNs (.slice base es.length cap) es] ?_
      exact ⟨rfl, rfl, rfl⟩
theorem nAt_es {w : PW} {es : List NE} (hns : w.ns = es.map NE.q) (a : Int) : nAt w a = (if 0 ≤ a then es[a.toNat]? else none).map NE.q := by
  unfold nAt
  rw [hns]
  split <;> simp
theorem at_cases {w : PW} {es : List NE} (hns : w.ns = es.map NE.q) (a : Int) : (nAt w a = none ∧ atV es a = .tuple #[.agg #[.pointer none, .pointer none, I 0], .bool false]) ∨ ∃ (i : Nat) (h : i < es.length), a = i ∧ nAt w a = some es[i].q ∧ atV es a = .tuple #[.agg es[i].cv.toArray, .bool true] := by
  by_cases h : 0 ≤ a ∧ a < es.length
  · obtain ⟨i, rfl⟩ : ∃ i : Nat, a = i := ⟨a.toNat, by omega⟩
    have hi : i < es.length := by omega
    refine .inr ⟨i, hi, rfl, ?_, atV_in hi⟩
    rw [nAt_es hns, if_pos (by omega), Int.toNat_natCast, List.getElem?_eq_getElem hi]; rfl
  · refine .inl ⟨?_, atV_out h⟩
    rw [nAt_none, hns, List.length_map]; exact h
def holdsW (w : PW) (a : Int) : List Hold := match nAt w a with | some q => holdsL q.ps.t | none => []
def prepW (w : PW) (a : Int) : List Rec := match nAt w a with | some q => prepL q.ps.t | none => []
def openW (w : PW) (a : Int) : List Rec := match nAt w a with | some q => openL q.cs | none => []
def votingW (w : PW) (a : Int) : List Txn := match nAt w a with | some q => votingL q.cs | none => []
theorem es_mem {w : PW} {es : List NE} (hns : w.ns = es.map NE.q) {i : Nat} (h : i < es.length) : es[i].q ∈ w.ns := by rw [hns]; exact List.mem_map.2 ⟨_, List.getElem_mem h, rfl⟩
theorem big_back {A : NE → HProp} {es : List NE} {i : Nat} (hi : i < es.length) {L : List HProp} : Sub (A es[i] :: bigL A (es.take i ++ es.drop (i + 1)) :: L) (bigL A es :: L) := by
  have h := bigL_in (A := A) (l1 := es.take i) (x := es[i]) (l2 := es.drop (i + 1)) (L := L)
  rwa [← split_at hi] at h
set_option maxHeartbeats 4000000 in
theorem wholds_spec {W0 : World} {H : Heap} {p : Nat} {w : PW} {a : Int} (hok : ∀ q ∈ w.ns, TsOk q.ps.t) :
    Ct Tryz.prog 10 #[ptrC p, I a] W0 H [worldO H p w] (fun r H' B => B = [ownS rHold 2 24 54 H' r (holdsW w a), worldO H' p w]) := by
  refine Ct.go (vs := [ptrC p, I a]) fun R => ?_
  refine ex_open (A := worldO H p w) (σ := Value × Nat × Value × List NE) (B := fun a => [wRow p a.1 a.2.1 (PW.now w) a.2.2.1, wNs a.1 a.2.2.2, bigL (ndP H) a.2.2.2, bigL (ndC H) a.2.2.2, Net.netO H (ptrC a.2.1) (PW.net w), wLog H a.2.2.1 (PW.log w)]) (p := fun a => PW.ns w = a.2.2.2.map NE.q) (by repeat (first | exact Has.here | apply Has.there)) (fun h ⟨nv, nb, lv, es, hb, hk⟩ => ⟨(nv, nb, lv, es), hk, hb⟩) fun ⟨nv, nb, lv, es⟩ hns => ?_
  dsimp only at hns ⊢
  refine walk ?_
  refine ops_pcall rfl rfl (at_spec (W0 := W0) (H := H) (p := p) (nb := nb) (nv := nv) (lv := lv) (now := w.now) (a := a) (es := es)) ?_
  rcases at_cases hns a with ⟨hn, ea⟩ | ⟨i, hi, rfl, hn, ea⟩
  · rw [ea]
    refine walk ?_
    refine ops_alloc rfl fun p5 _ => ?_
    refine walk ?_
    refine finB [ownS rHold 2 24 54 H nilS [], worldO H p w] ?_ (hs := ?_)
    · show _ = _
      unfold holdsW
      rw [hn]
    · refine Sub.trans ?_ ((world_fold (nv := nv) (nb := nb) (lv := lv) hns).trans ownS_nil)
      exact subA
  · rw [ea]
    have hok1 := hok _ (es_mem hns hi)
    refine walk ?_
    refine ops_alloc rfl fun p5 _ => ?_
    refine walk ?_
    refine ops_L (L' := ndP H es[i] :: bigL (ndP H) (es.take i ++ es.drop (i + 1)) :: row p5 66 es[i].cv :: wRow p nv nb w.now lv :: wNs nv es :: bigL (ndC H) es :: Net.netO H (ptrC nb) w.net :: wLog H lv w.log :: R) ?_ ?_
    · refine Sub.trans ?_ (bigL_get hi)
      exact subA
    refine ops_open (A := partO H es[i].pp (NE.q es[i]).ps) (σ := Nat × Nat) (B := fun a => [pRow es[i].pp a.1 (PS.sh (NE.q es[i]).ps) a.2, tabO H a.1 (PS.t (NE.q es[i]).ps), dMap H a.2 (NE.q es[i]).ps]) (p := fun _ => True) (by repeat (first | exact Has.here | apply Has.there)) (fun h ⟨tp, db, hbig⟩ => ⟨(tp, db), trivial, hbig⟩) fun ⟨tp, db⟩ _ => ?_
    dsimp only
    refine walk ?_
    refine ops_call rfl rfl (holds_spec (W0 := W0) (H := H) (p := tp) hok1) fun r1 H1 B hl1 eB => ?_
    subst eB
    refine walk ?_
    refine finB [ownS rHold 2 24 54 H1 r1 (holdsW w i), worldO H1 p w] ?_ (hs := ?_)
    · exact rfl
    · rw [show holdsW w i = holdsL es[i].q.ps.t by unfold holdsW; rw [hn]]
      refine Sub.trans (B := pRow es[i].pp tp es[i].q.ps.sh db :: tabO H1 tp es[i].q.ps.t :: dMap H db es[i].q.ps :: bigL (ndP H) (es.take i ++ es.drop (i + 1)) :: wRow p nv nb w.now lv :: wNs nv es :: bigL (ndC H) es :: Net.netO H (ptrC nb) w.net :: wLog H lv w.log :: ownS rHold 2 24 54 H1 r1 (holdsL es[i].q.ps.t) :: R) subA ?_
      refine Sub.trans (part_shut (.refl _) hl1) ?_
      refine Sub.trans (Sub.cons (ndP_up hl1)) ?_
      refine Sub.trans (big_back (A := ndP H1) hi) ?_
      refine Sub.trans (B := wRow p nv nb w.now lv :: wNs nv es :: bigL (ndP H1) es :: bigL (ndC H) es :: Net.netO H (ptrC nb) w.net :: wLog H lv w.log :: ownS rHold 2 24 54 H1 r1 (holdsL es[i].q.ps.t) :: R) subA ?_
      refine Sub.trans (world_shut (p := p) (nv := nv) (nb := nb) (lv := lv) (es := es) hns (.refl _) hl1 hl1 hl1) ?_
      exact subA
theorem bdec2 {p : Prop} [Decidable p] {b : Bool} (h : b = true ↔ p) : Value.bool b = Value.bool (decide p) := by
  congr 1; by_cases hp : p
  · rw [decide_eq_true hp]; exact h.2 hp
  · rw [decide_eq_false hp]; cases b with
    | false => rfl
    | true => exact absurd (h.1 rfl) hp
instance {w : PW} {k a : Int} {n : Nat} : Decidable (okMv w k a n) := by unfold okMv isNode; infer_instance
set_option maxHeartbeats 4000000 in
theorem fits_spec {W0 : World} {H : Heap} {p nb cap ln : Nat} {base : Option Addr} {lv s : Value} {w : PW} {m : Move} (hln : ln = w.ns.length) (hs : SlB rWork 3 56 H s m.Works) (hnow : 0 ≤ w.now ∧ w.now ≤ 1073741824) (hk : fits m.Kind) (ha : fits m.A) :
    Ct Tryz.prog 14 #[ptrC p, .agg (m.cv s).toArray] W0 H [wRow p (.slice base ln cap) nb w.now lv] (fun r H' B => r = .bool (decide (okMv w m.Kind m.A m.Works.length)) ∧ B = [wRow p (.slice base ln cap) nb w.now lv] ∧ H' = H) := by
  subst hln
  refine Ct.go (vs := [ptrC p, .agg (m.cv s).toArray]) fun R => ?_
  obtain ⟨b0, c0, rfl, _, _⟩ := hs.1.shape
  refine walk ?_
  refine ops_box rfl rfl fun p3 _ => ?_
  have hlen : fits (1073741824 - w.now) := by unfold fits; omega
  by_cases h1 : 0 ≤ m.A
  case neg =>
    by_cases k1 : m.Kind = 1
    · refine walk ?_
      skip
      refine finB [wRow p (.slice base w.ns.length cap) nb w.now lv] ?_
      refine ⟨bdec2 ?_, rfl, rfl⟩
      first
        | (refine ⟨fun h => (by cases h), fun h => ?_⟩; exfalso; unfold okMv isNode at h; omega)
        | (refine ⟨fun _ => ?_, fun _ => rfl⟩; unfold okMv isNode; omega)
    by_cases k5 : m.Kind = 5
    · refine walk ?_
      skip
      refine finB [wRow p (.slice base w.ns.length cap) nb w.now lv] ?_
      refine ⟨bdec2 ?_, rfl, rfl⟩
      first
        | (refine ⟨fun h => (by cases h), fun h => ?_⟩; exfalso; unfold okMv isNode at h; omega)
        | (refine ⟨fun _ => ?_, fun _ => rfl⟩; unfold okMv isNode; omega)
    by_cases k7 : m.Kind = 7
    · refine walk ?_
      skip
      refine finB [wRow p (.slice base w.ns.length cap) nb w.now lv] ?_
      refine ⟨bdec2 ?_, rfl, rfl⟩
      first
        | (refine ⟨fun h => (by cases h), fun h => ?_⟩; exfalso; unfold okMv isNode at h; omega)
        | (refine ⟨fun _ => ?_, fun _ => rfl⟩; unfold okMv isNode; omega)
    by_cases k6 : m.Kind = 6
    · refine walk ?_
      skip
      refine finB [wRow p (.slice base w.ns.length cap) nb w.now lv] ?_
      refine ⟨bdec2 ?_, rfl, rfl⟩
      first
        | (refine ⟨fun h => (by cases h), fun h => ?_⟩; exfalso; unfold okMv isNode at h; omega)
        | (refine ⟨fun _ => ?_, fun _ => rfl⟩; unfold okMv isNode; omega)
    by_cases k2 : m.Kind = 2
    · refine walk ?_
      skip
      refine finB [wRow p (.slice base w.ns.length cap) nb w.now lv] ?_
      refine ⟨bdec2 ?_, rfl, rfl⟩
      first
        | (refine ⟨fun h => (by cases h), fun h => ?_⟩; exfalso; unfold okMv isNode at h; omega)
        | (refine ⟨fun _ => ?_, fun _ => rfl⟩; unfold okMv isNode; omega)
    by_cases k3 : m.Kind = 3
    · refine walk ?_
      skip
      refine finB [wRow p (.slice base w.ns.length cap) nb w.now lv] ?_
      refine ⟨bdec2 ?_, rfl, rfl⟩
      first
        | (refine ⟨fun h => (by cases h), fun h => ?_⟩; exfalso; unfold okMv isNode at h; omega)
        | (refine ⟨fun _ => ?_, fun _ => rfl⟩; unfold okMv isNode; omega)
    by_cases k4 : m.Kind = 4
    · refine walk ?_
      skip
      refine finB [wRow p (.slice base w.ns.length cap) nb w.now lv] ?_
      refine ⟨bdec2 ?_, rfl, rfl⟩
      first
        | (refine ⟨fun h => (by cases h), fun h => ?_⟩; exfalso; unfold okMv isNode at h; omega)
        | (refine ⟨fun _ => ?_, fun _ => rfl⟩; unfold okMv isNode; omega)
    by_cases k8 : m.Kind = 8
    · refine walk ?_
      skip
      refine finB [wRow p (.slice base w.ns.length cap) nb w.now lv] ?_
      refine ⟨bdec2 ?_, rfl, rfl⟩
      first
        | (refine ⟨fun h => (by cases h), fun h => ?_⟩; exfalso; unfold okMv isNode at h; omega)
        | (refine ⟨fun _ => ?_, fun _ => rfl⟩; unfold okMv isNode; omega)
    refine walk ?_
    skip
    refine finB [wRow p (.slice base w.ns.length cap) nb w.now lv] ?_
    refine ⟨bdec2 ?_, rfl, rfl⟩
    first
      | (refine ⟨fun h => (by cases h), fun h => ?_⟩; exfalso; unfold okMv isNode at h; omega)
      | (refine ⟨fun _ => ?_, fun _ => rfl⟩; unfold okMv isNode; omega)
  by_cases k6 : m.Kind = 6
  · by_cases h2 : m.A ≤ 1073741824 - w.now
    · refine walk ?_
      skip
      refine finB [wRow p (.slice base w.ns.length cap) nb w.now lv] ?_
      refine ⟨bdec2 ?_, rfl, rfl⟩
      first
        | (refine ⟨fun h => (by cases h), fun h => ?_⟩; exfalso; unfold okMv isNode at h; omega)
        | (refine ⟨fun _ => ?_, fun _ => rfl⟩; unfold okMv isNode; omega)
    · refine walk ?_
      skip
      refine finB [wRow p (.slice base w.ns.length cap) nb w.now lv] ?_
      refine ⟨bdec2 ?_, rfl, rfl⟩
      first
        | (refine ⟨fun h => (by cases h), fun h => ?_⟩; exfalso; unfold okMv isNode at h; omega)
        | (refine ⟨fun _ => ?_, fun _ => rfl⟩; unfold okMv isNode; omega)
  by_cases k2 : m.Kind = 2
  · refine walk ?_
    skip
    refine finB [wRow p (.slice base w.ns.length cap) nb w.now lv] ?_
    refine ⟨bdec2 ?_, rfl, rfl⟩
    first
      | (refine ⟨fun h => (by cases h), fun h => ?_⟩; exfalso; unfold okMv isNode at h; omega)
      | (refine ⟨fun _ => ?_, fun _ => rfl⟩; unfold okMv isNode; omega)
  by_cases k3 : m.Kind = 3
  · refine walk ?_
    skip
    refine finB [wRow p (.slice base w.ns.length cap) nb w.now lv] ?_
    refine ⟨bdec2 ?_, rfl, rfl⟩
    first
      | (refine ⟨fun h => (by cases h), fun h => ?_⟩; exfalso; unfold okMv isNode at h; omega)
      | (refine ⟨fun _ => ?_, fun _ => rfl⟩; unfold okMv isNode; omega)
  by_cases k4 : m.Kind = 4
  · refine walk ?_
    skip
    refine finB [wRow p (.slice base w.ns.length cap) nb w.now lv] ?_
    refine ⟨bdec2 ?_, rfl, rfl⟩
    first
      | (refine ⟨fun h => (by cases h), fun h => ?_⟩; exfalso; unfold okMv isNode at h; omega)
      | (refine ⟨fun _ => ?_, fun _ => rfl⟩; unfold okMv isNode; omega)
  by_cases k8 : m.Kind = 8
  · refine walk ?_
    skip
    refine finB [wRow p (.slice base w.ns.length cap) nb w.now lv] ?_
    refine ⟨bdec2 ?_, rfl, rfl⟩
    first
      | (refine ⟨fun h => (by cases h), fun h => ?_⟩; exfalso; unfold okMv isNode at h; omega)
      | (refine ⟨fun _ => ?_, fun _ => rfl⟩; unfold okMv isNode; omega)
  by_cases h2 : m.A < w.ns.length
  · by_cases k1 : m.Kind = 1
    · by_cases h3 : m.Works.length ≤ w.ns.length
      · have h3' : (m.Works.length : Int) ≤ (w.ns.length : Int) := by omega
        refine walk ?_
        skip
        refine finB [wRow p (.slice base w.ns.length cap) nb w.now lv] ?_
        refine ⟨bdec2 ?_, rfl, rfl⟩
        first
          | (refine ⟨fun h => (by cases h), fun h => ?_⟩; exfalso; unfold okMv isNode at h; omega)
          | (refine ⟨fun _ => ?_, fun _ => rfl⟩; unfold okMv isNode; omega)
      · have h3' : ¬ (m.Works.length : Int) ≤ (w.ns.length : Int) := by omega
        refine walk ?_
        skip
        refine finB [wRow p (.slice base w.ns.length cap) nb w.now lv] ?_
        refine ⟨bdec2 ?_, rfl, rfl⟩
        first
          | (refine ⟨fun h => (by cases h), fun h => ?_⟩; exfalso; unfold okMv isNode at h; omega)
          | (refine ⟨fun _ => ?_, fun _ => rfl⟩; unfold okMv isNode; omega)
    by_cases k5 : m.Kind = 5
    · refine walk ?_
      skip
      refine finB [wRow p (.slice base w.ns.length cap) nb w.now lv] ?_
      refine ⟨bdec2 ?_, rfl, rfl⟩
      first
        | (refine ⟨fun h => (by cases h), fun h => ?_⟩; exfalso; unfold okMv isNode at h; omega)
        | (refine ⟨fun _ => ?_, fun _ => rfl⟩; unfold okMv isNode; omega)
    by_cases k7 : m.Kind = 7
    · refine walk ?_
      skip
      refine finB [wRow p (.slice base w.ns.length cap) nb w.now lv] ?_
      refine ⟨bdec2 ?_, rfl, rfl⟩
      first
        | (refine ⟨fun h => (by cases h), fun h => ?_⟩; exfalso; unfold okMv isNode at h; omega)
        | (refine ⟨fun _ => ?_, fun _ => rfl⟩; unfold okMv isNode; omega)
    refine walk ?_
    skip
    refine finB [wRow p (.slice base w.ns.length cap) nb w.now lv] ?_
    refine ⟨bdec2 ?_, rfl, rfl⟩
    first
      | (refine ⟨fun h => (by cases h), fun h => ?_⟩; exfalso; unfold okMv isNode at h; omega)
      | (refine ⟨fun _ => ?_, fun _ => rfl⟩; unfold okMv isNode; omega)
  · by_cases k1 : m.Kind = 1
    · refine walk ?_
      skip
      refine finB [wRow p (.slice base w.ns.length cap) nb w.now lv] ?_
      refine ⟨bdec2 ?_, rfl, rfl⟩
      first
        | (refine ⟨fun h => (by cases h), fun h => ?_⟩; exfalso; unfold okMv isNode at h; omega)
        | (refine ⟨fun _ => ?_, fun _ => rfl⟩; unfold okMv isNode; omega)
    by_cases k5 : m.Kind = 5
    · refine walk ?_
      skip
      refine finB [wRow p (.slice base w.ns.length cap) nb w.now lv] ?_
      refine ⟨bdec2 ?_, rfl, rfl⟩
      first
        | (refine ⟨fun h => (by cases h), fun h => ?_⟩; exfalso; unfold okMv isNode at h; omega)
        | (refine ⟨fun _ => ?_, fun _ => rfl⟩; unfold okMv isNode; omega)
    by_cases k7 : m.Kind = 7
    · refine walk ?_
      skip
      refine finB [wRow p (.slice base w.ns.length cap) nb w.now lv] ?_
      refine ⟨bdec2 ?_, rfl, rfl⟩
      first
        | (refine ⟨fun h => (by cases h), fun h => ?_⟩; exfalso; unfold okMv isNode at h; omega)
        | (refine ⟨fun _ => ?_, fun _ => rfl⟩; unfold okMv isNode; omega)
    refine walk ?_
    skip
    refine finB [wRow p (.slice base w.ns.length cap) nb w.now lv] ?_
    refine ⟨bdec2 ?_, rfl, rfl⟩
    first
      | (refine ⟨fun h => (by cases h), fun h => ?_⟩; exfalso; unfold okMv isNode at h; omega)
      | (refine ⟨fun _ => ?_, fun _ => rfl⟩; unfold okMv isNode; omega)
end Go.Proofs.YtpphdbnifbjfmaaGreatDoor
