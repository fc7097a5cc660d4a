/- The document's example of a coordinator. -/
import Derived.Test.YthoafjeampbkeaaCTP
import Derived.Test.YthoafjeampbkeaaE44
set_option linter.unusedVariables false
set_option linter.unusedSimpArgs false
namespace Go.Proofs.Ythoafjeampbkeaa
open Go Go.Sx Go.Proofs
def kaC : ByteArray := ⟨#[97]⟩
def wC : Work := ⟨1, [kaC], []⟩
def xC : Txn := ⟨0, 1, 1⟩
def tC (ws : List (Int × CW)) : TX := beganT 5 ws
def sC (t : TX) : CS := ⟨0, 1, 1, [((0, 1, 1), t)]⟩
def mC (p : Int) : Message := { zMessage with From := p, To := 0, Kind := 2, Txn := xC, Yes := true }
theorem works0C : works0 0 [zWork, wC, wC] = [((1 : Int), wC), (2, wC)] := rfl
theorem pqC {ws : List (Int × CW)} (h : pq ws = [((1 : Int), wC), (2, wC)]) : ∃ c1 c2, ws = [((1 : Int), (c1, wC)), (2, (c2, wC))] := by
  match ws, h with
  | [(a, (c1, w1)), (b, (c2, w2))], h =>
    simp only [pq, List.map_cons, List.map_nil, List.cons.injEq, Prod.mk.injEq, and_true] at h
    obtain ⟨⟨rfl, rfl⟩, rfl, rfl⟩ := h
    exact ⟨c1, c2, rfl⟩
  | [], h => simp [pq] at h
  | [_], h => simp [pq] at h
  | _ :: _ :: _ :: _, h => simp [pq] at h
theorem beginC {c1 c2 : List Value} : beginS ⟨0, 1, 0, []⟩ 5 [((1 : Int), (c1, wC)), (2, (c2, wC))] = sC (tC [((1 : Int), (c1, wC)), (2, (c2, wC))]) := rfl
theorem hearC1 {c1 c2 : List Value} : cHear (sC (tC [((1 : Int), (c1, wC)), (2, (c2, wC))])) (mC 1) = ⟨sC (hear1 (tC [((1 : Int), (c1, wC)), (2, (c2, wC))]) 1), [], [], []⟩ := rfl
theorem hearC2 {c1 c2 : List Value} : cHear (sC (hear1 (tC [((1 : Int), (c1, wC)), (2, (c2, wC))]) 1)) (mC 2) = ⟨sC (openT (tC [((1 : Int), (c1, wC)), (2, (c2, wC))])), [decM 0 xC 1 true, decM 0 xC 2 true], [recC xC [1, 2]], [outcM xC true false]⟩ := rfl
theorem againC {c1 c2 : List Value} : againL 0 xC (tC [((1 : Int), (c1, wC)), (2, (c2, wC))]) = [prepM 0 xC 1 wC, prepM 0 xC 2 wC] := rfl
theorem mC_reads {H : Heap} {p : Int} (hp : fits p) : rMessage H [I p, I 0, I 2, I 0, I 1, I 1, I 0, nilS, nilS, .bool true, I 0, I 0, I 0, I 0, nilS, I 0, I 0, I 0, nilS] (mC p) :=
  ⟨nilS, nilS, nilS, nilS, rfl, hp, fits0, by unfold fits; simp [mC], by unfold fits; simp [mC, xC], by unfold fits; simp [mC, xC], by unfold fits; simp [mC, xC], fits0, SlB.nil, SlB.nil, fits0, fits0, fits0, fits0, SlB.nil, fits0, fits0, fits0, SlB.nil⟩
theorem hplC {t0 : TX} (h : t0.parts.length ≤ 1000000) : ∀ k t, mget k (sC t0).ts = some t → t.parts.length ≤ 1000000 := fun k t hk => by
  unfold sC at hk
  simp only [mget] at hk
  split at hk
  · cases hk; exact h
  · cases hk
set_option maxHeartbeats 8000000 in
set_option maxRecDepth 20000 in
theorem cawake_spec {W0 : World} {H : Heap} :
    Ct Try.prog 9 #[] W0 H [] (fun r H' B => r = .bool true ∧ B = []) := by
  refine Ct.go (vs := []) fun R => ?_
  have hf5 : fits (5 : Int) := by unfold fits; omega
  have hf2 : fits (2 : Int) := by unfold fits; omega
  refine walk ?_
  refine ops_call rfl rfl (cnew_spec (node := 0) (life := 1)) fun r1 H1 B hl1 ⟨p, er, eB, eH⟩ => ?_
  subst er eB eH
  have I0 := cinv0 fits0 fit1c
  refine walk ?_
  refine ops_w rfl rfl (op_bs1 rfl rfl rfl fun b9 => ?_)
  refine walk ?_
  refine ops_alloc rfl fun p2 _ => ?_
  refine walk ?_
  refine ops_L (L' := ownS rStr 1 16 9 H1 (.slice (some ⟨b9, 0, none⟩) 1 1) [kaC] :: coordO H1 p ⟨0, 1, 0, []⟩ :: row p2 41 [I 1, .slice (some ⟨b9, 0, none⟩) 1 1, nilS] :: R) ?_ ?_
  · refine Sub.trans (B := row b9 9 [.string kaC] :: coordO H1 p ⟨0, 1, 0, []⟩ :: row p2 41 [I 1, .slice (some ⟨b9, 0, none⟩) 1 1, nilS] :: R) ?_ (own1 (x := kaC) ⟨rfl, by decide⟩ (by decide))
    (repeat (first | exact Sub.refl _ | exact Sub.nil _ | (apply sub_pick; (repeat (first | exact Has.here | apply Has.there)); skip) | apply Sub.drop))
  refine ops_freeze (.slice (some ⟨b9, 0, none⟩) 1 1) fun H2 hl2 hsk => ?_
  refine ops_bsM (sz := 3) [[I 0, nilS, nilS], [I 1, .slice (some ⟨b9, 0, none⟩) 1 1, nilS], [I 1, .slice (some ⟨b9, 0, none⟩) 1 1, nilS]] rfl rfl ⟨⟨rfl, rfl⟩, ⟨rfl, rfl⟩, ⟨rfl, rfl⟩, trivial⟩ (fun pb _ => ?_)
  refine ops_frzR .here fun H3 hl3 hr3 => ?_
  have hwr : rWork H3 [I 1, .slice (some ⟨b9, 0, none⟩) 1 1, nilS] wC := ⟨_, _, rfl, fit1c, hsk.mono hl3, SlB.nil⟩
  have hsw : SlB rWork 3 56 H3 (.slice (some ⟨pb, 0, none⟩) 3 3) [zWork, wC, wC] := ⟨slr_of_hrow (R := rWork) (xs := [zWork, wC, wC]) hr3 (show RL rWork H3 _ [zWork, wC, wC] from ⟨[I 0, nilS, nilS], _, rfl, zWork_rd, ⟨_, _, rfl, hwr, ⟨_, [], rfl, hwr, rfl⟩⟩⟩) (by simp) (by omega), by decide⟩
  refine ops_L (L' := coordO H3 p ⟨0, 1, 0, []⟩ :: row p2 41 [I 1, .slice (some ⟨b9, 0, none⟩) 1 1, nilS] :: R) ?_ ?_
  · refine Sub.trans ?_ (coord_up (hl2.trans hl3))
    (repeat (first | exact Sub.refl _ | exact Sub.nil _ | (apply sub_pick; (repeat (first | exact Has.here | apply Has.there)); skip) | apply Sub.drop))
  refine ops_call rfl rfl (begin_spec (W0 := W0) (H := H3) (p := p) (n := 0) (s := ⟨0, 1, 0, []⟩) (l := [zWork, wC, wC]) I0 (by omega) hf5 hsw (by simp)) fun r4 H4 B hl4 ⟨ws, hws, hcase⟩ => ?_
  rw [works0C] at hws
  obtain ⟨c1, c2, rfl⟩ := pqC hws
  rcases hcase with ⟨h, _⟩ | ⟨_, v1, er, eB⟩
  · cases h
  subst er eB
  have I1 := I0.begin (l := [zWork, wC, wC]) (ws := [((1 : Int), (c1, wC)), (2, (c2, wC))]) (now := 5) rfl (by simp) hf5 (by omega)
  rw [beginC] at I1 ⊢
  rw [show againL (CS.node ⟨0, 1, 0, []⟩) (newX ⟨0, 1, 0, []⟩) (beganT 5 [((1 : Int), (c1, wC)), (2, (c2, wC))]) = [prepM 0 xC 1 wC, prepM 0 xC 2 wC] from rfl]
  rw [show (newX (⟨0, 1, 0, []⟩ : CS)).cv = [I 0, I 1, I 1] from rfl]
  refine ops_shape v1 fun d1 e1 e _ _ _ => ?_
  rw [show [prepM 0 xC 1 wC, prepM 0 xC 2 wC].length = 2 from rfl] at e
  subst e
  refine walk ?_
  refine ops_alloc rfl fun p3 _ => ?_
  refine walk ?_
  have hh1 := chear_spec (W0 := W0) (H := H4) (p := p) (n := 0 + 1) (s := sC (tC [((1 : Int), (c1, wC)), (2, (c2, wC))])) (m := mC 1) I1 (by omega) (hplC (by show 2 ≤ 1000000; omega)) (mC_reads (p := 1) fit1c)
  refine ops_call rfl rfl hh1 fun r5 H5 B hl5 ⟨u1, u2, u3, er, eB⟩ => ?_
  subst er eB
  have I2 := I1.hear (m := mC 1)
  rw [hearC1] at I2 ⊢
  dsimp only at I2 ⊢
  refine ops_shape u1 fun d2 e2 e _ _ _ => ?_
  rw [show ([] : List Message).length = 0 from rfl] at e
  subst e
  refine ops_shape u2 fun d3 e3 e _ _ _ => ?_
  rw [show ([] : List Rec).length = 0 from rfl] at e
  subst e
  refine ops_shape u3 fun d4 e4 e _ _ _ => ?_
  rw [show ([] : List CoordOutcome).length = 0 from rfl] at e
  subst e
  refine walk ?_
  have hh2 := chear_spec (W0 := W0) (H := H5) (p := p) (n := 0 + 1) (s := sC (hear1 (tC [((1 : Int), (c1, wC)), (2, (c2, wC))]) 1)) (m := mC 2) I2 (by omega) (hplC (by show 2 ≤ 1000000; omega)) (mC_reads (p := 2) hf2)
  refine ops_call rfl rfl hh2 fun r6 H6 B hl6 ⟨t1, t2, t3, er, eB⟩ => ?_
  subst er eB
  rw [hearC2]
  dsimp only
  refine ops_freeze t1 fun H7 hl7 hs1 => ?_
  refine ops_shape t2 fun d5 e5 e _ _ _ => ?_
  rw [show [recC xC [1, 2]].length = 1 from rfl] at e
  subst e
  refine ops_freeze t3 fun H8 hl8 hs3 => ?_
  have hs1 := hs1.mono hl8
  obtain ⟨ba, ca, ea, _, _⟩ := hs1.1.shape
  rw [show [decM 0 xC 1 true, decM 0 xC 2 true].length = 2 from rfl] at ea
  subst ea
  obtain ⟨bb, cb, eb, _, _⟩ := hs3.1.shape
  rw [show [outcM xC true false].length = 1 from rfl] at eb
  subst eb
  refine walk ?_
  refine ops_ixp rfl rfl hs1.1 (show 0 < [decM 0 xC 1 true, decM 0 xC 2 true].length by decide) fun b o cc hr hc => ?_
  obtain ⟨w1, w2, w3, w4, rfl, _⟩ := hc
  change HRow H8 b o [I 0, I 1, I 3, I 0, I 1, I 1, I 0, w1, w2, .bool true, I 0, I 0, I 0, I 0, w3, I 0, I 0, I 0, w4] at hr
  refine walk ?_
  refine ops_ixp rfl rfl hs3.1 (show 0 < [outcM xC true false].length by decide) fun b' o' cc' hr' hc' => ?_
  obtain ⟨rfl, _⟩ := hc'
  change HRow H8 b' o' [I 0, I 1, I 1, .bool true, .bool false] at hr'
  refine walk ?_
  refine fin0 ?_
  exact ⟨rfl, rfl⟩
end Go.Proofs.Ythoafjeampbkeaa
