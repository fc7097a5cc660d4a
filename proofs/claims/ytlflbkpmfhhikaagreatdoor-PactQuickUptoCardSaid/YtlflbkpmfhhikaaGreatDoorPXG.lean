/- A move is played: those of the net, of time, of power; those that fit not. -/
import Derived.Test.YtlflbkpmfhhikaaGreatDoorPXC
import Derived.Test.YtlflbkpmfhhikaaGreatDoorPXF
set_option linter.unusedVariables false
set_option linter.unusedSimpArgs false
namespace Go.Proofs.YtlflbkpmfhhikaaGreatDoor
open Go Go.Sx Go.Proofs
theorem bdec2 {p : Prop} [Decidable p] {b : Bool} (h : b = true ↔ p) : Value.bool b = Value.bool (decide p) := by
  congr 1; by_cases hp : p
  · rw [decide_eq_true hp]; exact h.2 hp
  · rw [decide_eq_false hp]; cases b with
    | false => rfl
    | true => exact absurd (h.1 rfl) hp
instance {w : PW} {k a : Int} {n : Nat} : Decidable (okMv w k a n) := by unfold okMv isNode; infer_instance
set_option maxHeartbeats 4000000 in
theorem fits_spec {W0 : World} {H : Heap} {p nb cap ln : Nat} {base : Option Addr} {lv s : Value} {w : PW} {m : Move} (hln : ln = w.ns.length) (hs : SlB rWork 3 56 H s m.Works) (hnow : 0 ≤ w.now ∧ w.now ≤ 1073741824) (hk : fits m.Kind) (ha : fits m.A) :
    Ct Tryz.prog 35 #[ptrC p, .agg (m.cv s).toArray] W0 H [wRow p (.slice base ln cap) nb w.now lv] (fun r H' B => r = .bool (decide (okMv w m.Kind m.A m.Works.length)) ∧ B = [wRow p (.slice base ln cap) nb w.now lv] ∧ H' = H) := by
  subst hln
  refine Ct.go (vs := [ptrC p, .agg (m.cv s).toArray]) fun R => ?_
  obtain ⟨b0, c0, rfl, _, _⟩ := hs.1.shape
  refine walk ?_
  refine ops_box rfl rfl fun p3 _ => ?_
  have hlen : fits (1073741824 - w.now) := by unfold fits; omega
  by_cases h1 : 0 ≤ m.A
  case neg =>
    by_cases k1 : m.Kind = 1
    · refine walk ?_
      skip
      refine finB [wRow p (.slice base w.ns.length cap) nb w.now lv] ?_
      refine ⟨bdec2 ?_, rfl, rfl⟩
      first
        | (refine ⟨fun h => (by cases h), fun h => ?_⟩; exfalso; unfold okMv isNode at h; omega)
        | (refine ⟨fun _ => ?_, fun _ => rfl⟩; unfold okMv isNode; omega)
    by_cases k5 : m.Kind = 5
    · refine walk ?_
      skip
      refine finB [wRow p (.slice base w.ns.length cap) nb w.now lv] ?_
      refine ⟨bdec2 ?_, rfl, rfl⟩
      first
        | (refine ⟨fun h => (by cases h), fun h => ?_⟩; exfalso; unfold okMv isNode at h; omega)
        | (refine ⟨fun _ => ?_, fun _ => rfl⟩; unfold okMv isNode; omega)
    by_cases k7 : m.Kind = 7
    · refine walk ?_
      skip
      refine finB [wRow p (.slice base w.ns.length cap) nb w.now lv] ?_
      refine ⟨bdec2 ?_, rfl, rfl⟩
      first
        | (refine ⟨fun h => (by cases h), fun h => ?_⟩; exfalso; unfold okMv isNode at h; omega)
        | (refine ⟨fun _ => ?_, fun _ => rfl⟩; unfold okMv isNode; omega)
    by_cases k6 : m.Kind = 6
    · refine walk ?_
      skip
      refine finB [wRow p (.slice base w.ns.length cap) nb w.now lv] ?_
      refine ⟨bdec2 ?_, rfl, rfl⟩
      first
        | (refine ⟨fun h => (by cases h), fun h => ?_⟩; exfalso; unfold okMv isNode at h; omega)
        | (refine ⟨fun _ => ?_, fun _ => rfl⟩; unfold okMv isNode; omega)
    by_cases k2 : m.Kind = 2
    · refine walk ?_
      skip
      refine finB [wRow p (.slice base w.ns.length cap) nb w.now lv] ?_
      refine ⟨bdec2 ?_, rfl, rfl⟩
      first
        | (refine ⟨fun h => (by cases h), fun h => ?_⟩; exfalso; unfold okMv isNode at h; omega)
        | (refine ⟨fun _ => ?_, fun _ => rfl⟩; unfold okMv isNode; omega)
    by_cases k3 : m.Kind = 3
    · refine walk ?_
      skip
      refine finB [wRow p (.slice base w.ns.length cap) nb w.now lv] ?_
      refine ⟨bdec2 ?_, rfl, rfl⟩
      first
        | (refine ⟨fun h => (by cases h), fun h => ?_⟩; exfalso; unfold okMv isNode at h; omega)
        | (refine ⟨fun _ => ?_, fun _ => rfl⟩; unfold okMv isNode; omega)
    by_cases k4 : m.Kind = 4
    · refine walk ?_
      skip
      refine finB [wRow p (.slice base w.ns.length cap) nb w.now lv] ?_
      refine ⟨bdec2 ?_, rfl, rfl⟩
      first
        | (refine ⟨fun h => (by cases h), fun h => ?_⟩; exfalso; unfold okMv isNode at h; omega)
        | (refine ⟨fun _ => ?_, fun _ => rfl⟩; unfold okMv isNode; omega)
    by_cases k8 : m.Kind = 8
    · refine walk ?_
      skip
      refine finB [wRow p (.slice base w.ns.length cap) nb w.now lv] ?_
      refine ⟨bdec2 ?_, rfl, rfl⟩
      first
        | (refine ⟨fun h => (by cases h), fun h => ?_⟩; exfalso; unfold okMv isNode at h; omega)
        | (refine ⟨fun _ => ?_, fun _ => rfl⟩; unfold okMv isNode; omega)
    refine walk ?_
    skip
    refine finB [wRow p (.slice base w.ns.length cap) nb w.now lv] ?_
    refine ⟨bdec2 ?_, rfl, rfl⟩
    first
      | (refine ⟨fun h => (by cases h), fun h => ?_⟩; exfalso; unfold okMv isNode at h; omega)
      | (refine ⟨fun _ => ?_, fun _ => rfl⟩; unfold okMv isNode; omega)
  by_cases k6 : m.Kind = 6
  · by_cases h2 : m.A ≤ 1073741824 - w.now
    · refine walk ?_
      skip
      refine finB [wRow p (.slice base w.ns.length cap) nb w.now lv] ?_
      refine ⟨bdec2 ?_, rfl, rfl⟩
      first
        | (refine ⟨fun h => (by cases h), fun h => ?_⟩; exfalso; unfold okMv isNode at h; omega)
        | (refine ⟨fun _ => ?_, fun _ => rfl⟩; unfold okMv isNode; omega)
    · refine walk ?_
      skip
      refine finB [wRow p (.slice base w.ns.length cap) nb w.now lv] ?_
      refine ⟨bdec2 ?_, rfl, rfl⟩
      first
        | (refine ⟨fun h => (by cases h), fun h => ?_⟩; exfalso; unfold okMv isNode at h; omega)
        | (refine ⟨fun _ => ?_, fun _ => rfl⟩; unfold okMv isNode; omega)
  by_cases k2 : m.Kind = 2
  · refine walk ?_
    skip
    refine finB [wRow p (.slice base w.ns.length cap) nb w.now lv] ?_
    refine ⟨bdec2 ?_, rfl, rfl⟩
    first
      | (refine ⟨fun h => (by cases h), fun h => ?_⟩; exfalso; unfold okMv isNode at h; omega)
      | (refine ⟨fun _ => ?_, fun _ => rfl⟩; unfold okMv isNode; omega)
  by_cases k3 : m.Kind = 3
  · refine walk ?_
    skip
    refine finB [wRow p (.slice base w.ns.length cap) nb w.now lv] ?_
    refine ⟨bdec2 ?_, rfl, rfl⟩
    first
      | (refine ⟨fun h => (by cases h), fun h => ?_⟩; exfalso; unfold okMv isNode at h; omega)
      | (refine ⟨fun _ => ?_, fun _ => rfl⟩; unfold okMv isNode; omega)
  by_cases k4 : m.Kind = 4
  · refine walk ?_
    skip
    refine finB [wRow p (.slice base w.ns.length cap) nb w.now lv] ?_
    refine ⟨bdec2 ?_, rfl, rfl⟩
    first
      | (refine ⟨fun h => (by cases h), fun h => ?_⟩; exfalso; unfold okMv isNode at h; omega)
      | (refine ⟨fun _ => ?_, fun _ => rfl⟩; unfold okMv isNode; omega)
  by_cases k8 : m.Kind = 8
  · refine walk ?_
    skip
    refine finB [wRow p (.slice base w.ns.length cap) nb w.now lv] ?_
    refine ⟨bdec2 ?_, rfl, rfl⟩
    first
      | (refine ⟨fun h => (by cases h), fun h => ?_⟩; exfalso; unfold okMv isNode at h; omega)
      | (refine ⟨fun _ => ?_, fun _ => rfl⟩; unfold okMv isNode; omega)
  by_cases h2 : m.A < w.ns.length
  · by_cases k1 : m.Kind = 1
    · by_cases h3 : m.Works.length ≤ w.ns.length
      · have h3' : (m.Works.length : Int) ≤ (w.ns.length : Int) := by omega
        refine walk ?_
        skip
        refine finB [wRow p (.slice base w.ns.length cap) nb w.now lv] ?_
        refine ⟨bdec2 ?_, rfl, rfl⟩
        first
          | (refine ⟨fun h => (by cases h), fun h => ?_⟩; exfalso; unfold okMv isNode at h; omega)
          | (refine ⟨fun _ => ?_, fun _ => rfl⟩; unfold okMv isNode; omega)
      · have h3' : ¬ (m.Works.length : Int) ≤ (w.ns.length : Int) := by omega
        refine walk ?_
        skip
        refine finB [wRow p (.slice base w.ns.length cap) nb w.now lv] ?_
        refine ⟨bdec2 ?_, rfl, rfl⟩
        first
          | (refine ⟨fun h => (by cases h), fun h => ?_⟩; exfalso; unfold okMv isNode at h; omega)
          | (refine ⟨fun _ => ?_, fun _ => rfl⟩; unfold okMv isNode; omega)
    by_cases k5 : m.Kind = 5
    · refine walk ?_
      skip
      refine finB [wRow p (.slice base w.ns.length cap) nb w.now lv] ?_
      refine ⟨bdec2 ?_, rfl, rfl⟩
      first
        | (refine ⟨fun h => (by cases h), fun h => ?_⟩; exfalso; unfold okMv isNode at h; omega)
        | (refine ⟨fun _ => ?_, fun _ => rfl⟩; unfold okMv isNode; omega)
    by_cases k7 : m.Kind = 7
    · refine walk ?_
      skip
      refine finB [wRow p (.slice base w.ns.length cap) nb w.now lv] ?_
      refine ⟨bdec2 ?_, rfl, rfl⟩
      first
        | (refine ⟨fun h => (by cases h), fun h => ?_⟩; exfalso; unfold okMv isNode at h; omega)
        | (refine ⟨fun _ => ?_, fun _ => rfl⟩; unfold okMv isNode; omega)
    refine walk ?_
    skip
    refine finB [wRow p (.slice base w.ns.length cap) nb w.now lv] ?_
    refine ⟨bdec2 ?_, rfl, rfl⟩
    first
      | (refine ⟨fun h => (by cases h), fun h => ?_⟩; exfalso; unfold okMv isNode at h; omega)
      | (refine ⟨fun _ => ?_, fun _ => rfl⟩; unfold okMv isNode; omega)
  · by_cases k1 : m.Kind = 1
    · refine walk ?_
      skip
      refine finB [wRow p (.slice base w.ns.length cap) nb w.now lv] ?_
      refine ⟨bdec2 ?_, rfl, rfl⟩
      first
        | (refine ⟨fun h => (by cases h), fun h => ?_⟩; exfalso; unfold okMv isNode at h; omega)
        | (refine ⟨fun _ => ?_, fun _ => rfl⟩; unfold okMv isNode; omega)
    by_cases k5 : m.Kind = 5
    · refine walk ?_
      skip
      refine finB [wRow p (.slice base w.ns.length cap) nb w.now lv] ?_
      refine ⟨bdec2 ?_, rfl, rfl⟩
      first
        | (refine ⟨fun h => (by cases h), fun h => ?_⟩; exfalso; unfold okMv isNode at h; omega)
        | (refine ⟨fun _ => ?_, fun _ => rfl⟩; unfold okMv isNode; omega)
    by_cases k7 : m.Kind = 7
    · refine walk ?_
      skip
      refine finB [wRow p (.slice base w.ns.length cap) nb w.now lv] ?_
      refine ⟨bdec2 ?_, rfl, rfl⟩
      first
        | (refine ⟨fun h => (by cases h), fun h => ?_⟩; exfalso; unfold okMv isNode at h; omega)
        | (refine ⟨fun _ => ?_, fun _ => rfl⟩; unfold okMv isNode; omega)
    refine walk ?_
    skip
    refine finB [wRow p (.slice base w.ns.length cap) nb w.now lv] ?_
    refine ⟨bdec2 ?_, rfl, rfl⟩
    first
      | (refine ⟨fun h => (by cases h), fun h => ?_⟩; exfalso; unfold okMv isNode at h; omega)
      | (refine ⟨fun _ => ?_, fun _ => rfl⟩; unfold okMv isNode; omega)
def PlayQ (n : Nat) (H' : Heap) (p : Nat) (w : PW) (m : Move) (r : Value) (B : List HProp) : Prop := ∃ w' e, PPlay n w m.Kind m.A m.Works w' e ∧ r = I e ∧ B = [worldO H' p w']
set_option maxHeartbeats 8000000 in
set_option maxRecDepth 20000 in
theorem play_bad {W0 : World} {H : Heap} {p n : Nat} {s : Value} {w : PW} {m : Move} (hs : SlB rWork 3 56 H s m.Works) (hnow : 0 ≤ w.now ∧ w.now ≤ 1073741824) (hk : fits m.Kind) (ha : fits m.A) (hb : ¬ okMv w m.Kind m.A m.Works.length) :
    Ct Tryz.prog 14 #[ptrC p, .agg (m.cv s).toArray] W0 H [worldO H p w] (fun r H' B => PlayQ n H' p w m r B) := by
  obtain ⟨b0, c0, rfl, _, _⟩ := hs.1.shape
  refine Ct.go (vs := [ptrC p, .agg (m.cv (.slice b0 m.Works.length c0)).toArray]) fun R => ?_
  refine ex_open (A := worldO H p w) (σ := Value × Nat × Value × List NE) (B := fun a => [wRow p a.1 a.2.1 (PW.now w) a.2.2.1, wNs a.1 a.2.2.2, bigL (ndP H) a.2.2.2, bigL (ndC H) a.2.2.2, Net.netO H (ptrC a.2.1) (PW.net w), wLog H a.2.2.1 (PW.log w)]) (p := fun a => PW.ns w = a.2.2.2.map NE.q) (by repeat (first | exact Has.here | apply Has.there)) (fun h ⟨nv, nb, lv, es, hb, hk⟩ => ⟨(nv, nb, lv, es), hk, hb⟩) fun ⟨nv, nb, lv, es⟩ hns => ?_
  dsimp only at hns ⊢
  refine ex_shape nv fun base cap e q1 q2 q3 => ?_
  subst e
  have hln : es.length = w.ns.length := by rw [hns, List.length_map]
  refine walk ?_
  refine ops_box rfl rfl fun p3 _ => ?_
  refine walk ?_
  refine ops_pcall rfl rfl (fits_spec (W0 := W0) (H := H) (p := p) (nb := nb) (cap := cap) (base := base) (lv := lv) (w := w) (m := m) hln hs hnow hk ha) ?_
  rw [decide_eq_false hb]
  refine walk ?_
  refine finB [worldO H p w] ?_ (hs := ?_)
  · exact ⟨w, 1, .bad hb, rfl, rfl⟩
  · refine Sub.trans ?_ (world_fold (nv := .slice base es.length cap) (nb := nb) (lv := lv) hns)
    exact subA
set_option maxHeartbeats 8000000 in
set_option maxRecDepth 20000 in
theorem play_drop {W0 : World} {H : Heap} {p n : Nat} {s : Value} {w : PW} {m : Move} (hs : SlB rWork 3 56 H s m.Works) (hnow : 0 ≤ w.now ∧ w.now ≤ 1073741824) (hk : fits m.Kind) (ha : fits m.A) (k3 : m.Kind = 3) :
    Ct Tryz.prog 14 #[ptrC p, .agg (m.cv s).toArray] W0 H [worldO H p w] (fun r H' B => PlayQ n H' p w m r B) := by
  have hb : okMv w m.Kind m.A m.Works.length := by unfold okMv; omega
  obtain ⟨b0, c0, rfl, _, _⟩ := hs.1.shape
  refine Ct.go (vs := [ptrC p, .agg (m.cv (.slice b0 m.Works.length c0)).toArray]) fun R => ?_
  refine ex_open (A := worldO H p w) (σ := Value × Nat × Value × List NE) (B := fun a => [wRow p a.1 a.2.1 (PW.now w) a.2.2.1, wNs a.1 a.2.2.2, bigL (ndP H) a.2.2.2, bigL (ndC H) a.2.2.2, Net.netO H (ptrC a.2.1) (PW.net w), wLog H a.2.2.1 (PW.log w)]) (p := fun a => PW.ns w = a.2.2.2.map NE.q) (by repeat (first | exact Has.here | apply Has.there)) (fun h ⟨nv, nb, lv, es, hb, hk⟩ => ⟨(nv, nb, lv, es), hk, hb⟩) fun ⟨nv, nb, lv, es⟩ hns => ?_
  dsimp only at hns ⊢
  refine ex_shape nv fun base cap e q1 q2 q3 => ?_
  subst e
  have hln : es.length = w.ns.length := by rw [hns, List.length_map]
  refine walk ?_
  refine ops_box rfl rfl fun p3 _ => ?_
  refine walk ?_
  refine ops_pcall rfl rfl (fits_spec (W0 := W0) (H := H) (p := p) (nb := nb) (cap := cap) (base := base) (lv := lv) (w := w) (m := m) hln hs hnow hk ha) ?_
  rw [decide_eq_true hb]
  refine walk ?_
  refine ex_any 7 [wRow p (.slice base es.length cap) nb w.now lv, row p3 37 (m.cv (.slice b0 m.Works.length c0))] ?_
  refine stepY 0 ?_; refine stepY 1 ?_; refine stepY 2 ?_; refine stepY 3 ?_; refine stepY 4 ?_; refine stepY 5 ?_
  by_cases hin : inN w.net m.A
  · obtain ⟨j, hj⟩ : ∃ j : Nat, m.A = j := ⟨m.A.toNat, by unfold inN at hin; omega⟩
    have hjl : j < w.net.length := by unfold inN at hin; omega
    have hcall := Net.drop_yes (W0 := W0) (H := H) (H0 := H) (p := ptrC nb) (ms := w.net) (.refl _) hjl
    rw [← hj] at hcall
    refine gny_call 6 rfl rfl rfl hcall fun r1 H1 B hl1 ⟨er, eB, eH⟩ => ?_
    subst er eB eH
    refine ⟨subA, ?_⟩
    refine any_rest rfl ?_
    refine walk ?_
    refine finB [worldO H1 p { w with net := delM w.net j }] ?_ (hs := ?_)
    · exact ⟨_, 0, .drop k3 j hj hjl, rfl, rfl⟩
    · refine Sub.trans ?_ (world_fold (w := { w with net := delM w.net j }) (nv := .slice base es.length cap) (nb := nb) (lv := lv) hns)
      show Sub _ (_ :: _ :: _ :: _ :: Net.netO H1 (ptrC nb) (Net.del w.net j) :: _ :: _)
      exact subA
  · refine gny_call 6 rfl rfl rfl (Net.drop_no (W0 := W0) (H := H) (H0 := H) (p := ptrC nb) (ms := w.net) (i := m.A) (.refl _) hin) fun r1 H1 B hl1 ⟨er, eB, eH⟩ => ?_
    subst er eB eH
    refine ⟨subA, ?_⟩
    refine any_rest rfl ?_
    refine walk ?_
    refine finB [worldO H1 p w] ?_ (hs := ?_)
    · exact ⟨w, 4, .none (.inr (.inl k3)) hin, rfl, rfl⟩
    · refine Sub.trans ?_ (world_fold (nv := .slice base es.length cap) (nb := nb) (lv := lv) hns)
      exact subA
set_option maxHeartbeats 8000000 in
set_option maxRecDepth 20000 in
theorem play_copy {W0 : World} {H : Heap} {p n : Nat} {s : Value} {w : PW} {m : Move} (hs : SlB rWork 3 56 H s m.Works) (hnow : 0 ≤ w.now ∧ w.now ≤ 1073741824) (hk : fits m.Kind) (ha : fits m.A) (k4 : m.Kind = 4) :
    Ct Tryz.prog 14 #[ptrC p, .agg (m.cv s).toArray] W0 H [worldO H p w] (fun r H' B => PlayQ n H' p w m r B) := by
  have hb : okMv w m.Kind m.A m.Works.length := by unfold okMv; omega
  obtain ⟨b0, c0, rfl, _, _⟩ := hs.1.shape
  refine Ct.go (vs := [ptrC p, .agg (m.cv (.slice b0 m.Works.length c0)).toArray]) fun R => ?_
  refine ex_open (A := worldO H p w) (σ := Value × Nat × Value × List NE) (B := fun a => [wRow p a.1 a.2.1 (PW.now w) a.2.2.1, wNs a.1 a.2.2.2, bigL (ndP H) a.2.2.2, bigL (ndC H) a.2.2.2, Net.netO H (ptrC a.2.1) (PW.net w), wLog H a.2.2.1 (PW.log w)]) (p := fun a => PW.ns w = a.2.2.2.map NE.q) (by repeat (first | exact Has.here | apply Has.there)) (fun h ⟨nv, nb, lv, es, hb, hk⟩ => ⟨(nv, nb, lv, es), hk, hb⟩) fun ⟨nv, nb, lv, es⟩ hns => ?_
  dsimp only at hns ⊢
  refine ex_shape nv fun base cap e q1 q2 q3 => ?_
  subst e
  have hln : es.length = w.ns.length := by rw [hns, List.length_map]
  refine walk ?_
  refine ops_box rfl rfl fun p3 _ => ?_
  refine walk ?_
  refine ops_pcall rfl rfl (fits_spec (W0 := W0) (H := H) (p := p) (nb := nb) (cap := cap) (base := base) (lv := lv) (w := w) (m := m) hln hs hnow hk ha) ?_
  rw [decide_eq_true hb]
  refine walk ?_
  refine ex_any 7 [wRow p (.slice base es.length cap) nb w.now lv, row p3 37 (m.cv (.slice b0 m.Works.length c0))] ?_
  refine stepY 0 ?_; refine stepY 1 ?_; refine stepY 2 ?_; refine stepY 3 ?_; refine stepY 4 ?_; refine stepY 5 ?_
  by_cases hin : inN w.net m.A
  · obtain ⟨j, hj⟩ : ∃ j : Nat, m.A = j := ⟨m.A.toNat, by unfold inN at hin; omega⟩
    have hjl : j < w.net.length := by unfold inN at hin; omega
    by_cases hf : w.net.length < 64
    · have hcall := Net.copy_yes (W0 := W0) (H := H) (H0 := H) (p := ptrC nb) (ms := w.net) (.refl _) hjl hf
      rw [← hj] at hcall
      refine gny_call 6 rfl rfl rfl hcall fun r1 H1 B hl1 ⟨er, eB⟩ => ?_
      subst er eB
      refine ⟨subA, ?_⟩
      refine any_rest rfl ?_
      refine walk ?_
      refine finB [worldO H1 p { w with net := w.net ++ [w.net[j]] }] ?_ (hs := ?_)
      · exact ⟨_, 0, .copy k4 j hj hjl hf, rfl, rfl⟩
      · refine Sub.trans ?_ (world_shut (H1 := H) (H2 := H) (H3 := H1) (H4 := H) (w := { w with net := w.net ++ [w.net[j]] }) (nv := .slice base es.length cap) (nb := nb) (lv := lv) hns hl1 hl1 (.refl _) hl1)
        exact subA
    · have hcall := Net.copy_full (W0 := W0) (H := H) (H0 := H) (p := ptrC nb) (ms := w.net) (.refl _) hjl hf
      rw [← hj] at hcall
      refine gny_call 6 rfl rfl rfl hcall fun r1 H1 B hl1 ⟨er, eB⟩ => ?_
      subst er eB
      refine ⟨subA, ?_⟩
      refine any_rest rfl ?_
      refine walk ?_
      refine finB [worldO H1 p w] ?_ (hs := ?_)
      · exact ⟨_, 5, .full k4 j hj hjl hf, rfl, rfl⟩
      · refine Sub.trans ?_ (world_shut (H1 := H) (H2 := H) (H3 := H1) (H4 := H) (nv := .slice base es.length cap) (nb := nb) (lv := lv) hns hl1 hl1 (.refl _) hl1)
        exact subA
  · refine gny_call 6 rfl rfl rfl (Net.copy_no (W0 := W0) (H := H) (H0 := H) (p := ptrC nb) (ms := w.net) (i := m.A) (.refl _) hin) fun r1 H1 B hl1 ⟨er, eB, eH⟩ => ?_
    subst er eB eH
    refine ⟨subA, ?_⟩
    refine any_rest rfl ?_
    refine walk ?_
    refine finB [worldO H1 p w] ?_ (hs := ?_)
    · exact ⟨w, 4, .none (.inr (.inr (.inl k4))) hin, rfl, rfl⟩
    · refine Sub.trans ?_ (world_fold (nv := .slice base es.length cap) (nb := nb) (lv := lv) hns)
      exact subA
set_option maxHeartbeats 8000000 in
set_option maxRecDepth 20000 in
theorem play_tick {W0 : World} {H : Heap} {p n : Nat} {s : Value} {w : PW} {m : Move} (hs : SlB rWork 3 56 H s m.Works) (hnow : 0 ≤ w.now ∧ w.now ≤ 1073741824) (hk : fits m.Kind) (ha : fits m.A) (k6 : m.Kind = 6) (h0 : 0 ≤ m.A) (h1 : m.A ≤ 1073741824 - w.now) :
    Ct Tryz.prog 14 #[ptrC p, .agg (m.cv s).toArray] W0 H [worldO H p w] (fun r H' B => PlayQ n H' p w m r B) := by
  have hb : okMv w m.Kind m.A m.Works.length := by unfold okMv; omega
  obtain ⟨b0, c0, rfl, _, _⟩ := hs.1.shape
  refine Ct.go (vs := [ptrC p, .agg (m.cv (.slice b0 m.Works.length c0)).toArray]) fun R => ?_
  refine ex_open (A := worldO H p w) (σ := Value × Nat × Value × List NE) (B := fun a => [wRow p a.1 a.2.1 (PW.now w) a.2.2.1, wNs a.1 a.2.2.2, bigL (ndP H) a.2.2.2, bigL (ndC H) a.2.2.2, Net.netO H (ptrC a.2.1) (PW.net w), wLog H a.2.2.1 (PW.log w)]) (p := fun a => PW.ns w = a.2.2.2.map NE.q) (by repeat (first | exact Has.here | apply Has.there)) (fun h ⟨nv, nb, lv, es, hb, hk⟩ => ⟨(nv, nb, lv, es), hk, hb⟩) fun ⟨nv, nb, lv, es⟩ hns => ?_
  dsimp only at hns ⊢
  refine ex_shape nv fun base cap e q1 q2 q3 => ?_
  subst e
  have hln : es.length = w.ns.length := by rw [hns, List.length_map]
  refine walk ?_
  refine ops_box rfl rfl fun p3 _ => ?_
  refine walk ?_
  refine ops_pcall rfl rfl (fits_spec (W0 := W0) (H := H) (p := p) (nb := nb) (cap := cap) (base := base) (lv := lv) (w := w) (m := m) hln hs hnow hk ha) ?_
  rw [decide_eq_true hb]
  have hsum : fits (w.now + m.A) := by unfold fits; omega
  refine walk ?_
  refine ex_any 7 [wRow p (.slice base es.length cap) nb w.now lv, row p3 37 (m.cv (.slice b0 m.Works.length c0))] ?_
  refine stepY 0 ?_; refine stepY 1 ?_; refine stepY 2 ?_; refine stepY 3 ?_; refine stepY 4 ?_; refine stepY 5 ?_; refine stepY 6 ?_
  refine any_rest rfl ?_
  refine walk ?_
  refine finB [worldO H p { w with now := w.now + m.A }] ?_ (hs := ?_)
  · exact ⟨_, 0, .tick k6 h0 h1, rfl, rfl⟩
  · refine Sub.trans ?_ (world_fold (w := { w with now := w.now + m.A }) (nv := .slice base es.length cap) (nb := nb) (lv := lv) hns)
    exact subA
set_option maxHeartbeats 8000000 in
set_option maxRecDepth 20000 in
theorem play_crash {W0 : World} {H : Heap} {p n i : Nat} {s : Value} {w : PW} {m : Move} (KW : WOk n w) (hs : SlB rWork 3 56 H s m.Works) (hnow : 0 ≤ w.now ∧ w.now ≤ 1073741824) (hk : fits m.Kind) (ha : fits m.A) (k7 : m.Kind = 7) (hai : m.A = i) (hi : i < w.ns.length) :
    Ct Tryz.prog 14 #[ptrC p, .agg (m.cv s).toArray] W0 H [worldO H p w] (fun r H' B => PlayQ n H' p w m r B) := by
  have hb : okMv w m.Kind m.A m.Works.length := by unfold okMv isNode; omega
  obtain ⟨b0, c0, rfl, _, _⟩ := hs.1.shape
  refine Ct.go (vs := [ptrC p, .agg (m.cv (.slice b0 m.Works.length c0)).toArray]) fun R => ?_
  refine ex_open (A := worldO H p w) (σ := Value × Nat × Value × List NE) (B := fun a => [wRow p a.1 a.2.1 (PW.now w) a.2.2.1, wNs a.1 a.2.2.2, bigL (ndP H) a.2.2.2, bigL (ndC H) a.2.2.2, Net.netO H (ptrC a.2.1) (PW.net w), wLog H a.2.2.1 (PW.log w)]) (p := fun a => PW.ns w = a.2.2.2.map NE.q) (by repeat (first | exact Has.here | apply Has.there)) (fun h ⟨nv, nb, lv, es, hb, hk⟩ => ⟨(nv, nb, lv, es), hk, hb⟩) fun ⟨nv, nb, lv, es⟩ hns => ?_
  dsimp only at hns ⊢
  refine ex_shape nv fun base cap e q1 q2 q3 => ?_
  subst e
  have hln : es.length = w.ns.length := by rw [hns, List.length_map]
  refine walk ?_
  refine ops_box rfl rfl fun p3 _ => ?_
  refine walk ?_
  refine ops_pcall rfl rfl (fits_spec (W0 := W0) (H := H) (p := p) (nb := nb) (cap := cap) (base := base) (lv := lv) (w := w) (m := m) hln hs hnow hk ha) ?_
  rw [decide_eq_true hb]
  have hcall := crash_spec (W0 := W0) (H := H) (p := p) (nb := nb) (n := n) (i := i) (nv := .slice base es.length cap) (lv := lv) (w := w) (es := es) hns KW (by omega)
  rw [← hai] at hcall
  refine walk ?_
  refine ops_call rfl rfl hcall fun r1 H1 B hl1 ⟨w', es', hpc, hns', eB⟩ => ?_
  subst eB
  have hlog : w'.log = w.log := by cases hpc; rfl
  refine walk ?_
  refine finB [worldO H1 p w'] ?_ (hs := ?_)
  · exact ⟨w', 0, .crash k7 i hai hi w' hpc, rfl, rfl⟩
  · refine Sub.trans ?_ (world_shut (H1 := H1) (H2 := H1) (H3 := H1) (H4 := H) (w := w') (nv := .slice base es.length cap) (nb := nb) (lv := lv) hns' (.refl _) (.refl _) (.refl _) hl1)
    rw [hlog]
    exact subA
end Go.Proofs.YtlflbkpmfhhikaaGreatDoor
