/- Load, walked. -/
import Derived.Test.YtpphdbnifbjfmaaGreatDoorJKD
import Derived.Test.YtpphdbnifbjfmaaGreatDoorJLS
import Derived.Test.YtpphdbnifbjfmaaGreatDoorJTB
set_option linter.unusedVariables false
set_option linter.unusedSimpArgs false
namespace Go.Proofs.YtpphdbnifbjfmaaGreatDoor
open Go Go.Sx Go.Proofs
def rankE (e : Int) : Int := if e = 2 then 3 else if e = 1 then 2 else if e = 140 then 1 else 0
def worse (a e : Int) : Int := if rankE a < rankE e then e else a
theorem rank_spec {W0 : World} {H : Heap} {e : Int} :
    Ct Tryz.prog 78 #[I e] W0 H [] (fun r H' B => r = I (rankE e) ∧ B = [] ∧ H' = H) := by
  refine Ct.go (vs := [I e]) fun R => ?_
  unfold rankE
  refine walk ?_
  refine ex_if rfl (fun h1 => ?_) (fun h1 => ?_)
  · refine walk ?_
    refine fin0 ?_
    exact ⟨by rw [if_pos h1], rfl, rfl⟩
  refine walk ?_
  refine ex_if rfl (fun h2 => ?_) (fun h2 => ?_)
  · refine walk ?_
    refine fin0 ?_
    exact ⟨by rw [if_neg h1, if_pos h2], rfl, rfl⟩
  refine walk ?_
  refine ex_if rfl (fun h3 => ?_) (fun h3 => ?_)
  · refine walk ?_
    refine fin0 ?_
    exact ⟨by rw [if_neg h1, if_neg h2, if_pos h3], rfl, rfl⟩
  refine walk ?_
  refine fin0 ?_
  exact ⟨by rw [if_neg h1, if_neg h2, if_neg h3], rfl, rfl⟩
theorem note_spec {W0 : World} {H : Heap} {p : Nat} {a e : Int} :
    Ct Tryz.prog 77 #[I e, .pointer (some ⟨p, 0, none⟩)] W0 H [row p 24 [I a]] (fun r H' B => r = .tuple #[] ∧ B = [row p 24 [I (worse a e)]] ∧ H' = H) := by
  refine Ct.go (vs := [I e, .pointer (some ⟨p, 0, none⟩)]) fun R => ?_
  unfold worse
  refine walk ?_
  refine ex_any 5 [row p 24 [I a]] ?_
  refine stepY 0 ?_
  refine stepY 2 ?_
  refine gny_pcall 1 rfl rfl rfl rank_spec ?_
  refine gny_pcall 3 rfl rfl rfl rank_spec ?_
  refine stepY 4 ?_
  refine any_rest rfl ?_
  refine walk ?_
  refine ex_if rfl (fun h1 => ?_) (fun h1 => ?_)
  · refine walk ?_
    rw [if_pos h1]
    refine endnB [row p 24 [I e]] ?_
    exact ⟨rfl, rfl, rfl⟩
  · refine walk ?_
    rw [if_neg h1]
    refine endnB [row p 24 [I a]] ?_
    exact ⟨rfl, rfl, rfl⟩
structure Cnt (l : List K3) (m : List (K3 × Int)) : Prop where
  keys : ∀ k, k ∈ m.map (·.1) ↔ k ∈ l
  le : m.length ≤ l.length
  nd : m.length = l.length ↔ l.Nodup
  val : ∀ k v, mget k m = some v → 0 ≤ v ∧ v ≤ l.length
theorem Cnt.snoc {l : List K3} {m : List (K3 × Int)} (h : Cnt l m) (hn : (m.map (·.1)).Nodup) (k : K3) : Cnt (l ++ [k]) (mset k ((mget k m).getD 0 + 1) m) := by
  have hl := mset_len (k := k) (v := (mget k m).getD 0 + 1) (m := m)
  have hk := mset_keys k ((mget k m).getD 0 + 1) m
  have hv : 0 ≤ (mget k m).getD 0 ∧ (mget k m).getD 0 ≤ l.length := by
    cases hg : mget k m with
    | none => simp
    | some v => exact h.val k v hg
  have hle := h.le
  refine ⟨fun k' => ?_, ?_, ?_, fun k' v hg => ?_⟩
  · rw [hk, List.mem_append, List.mem_singleton]
    split
    · next hm => rw [h.keys]; exact ⟨.inl, fun e => e.elim id fun e => by subst e; exact (h.keys _).1 hm⟩
    · rw [List.mem_append, List.mem_singleton, h.keys]
  · rw [hl, List.length_append]
    simp only [List.length_cons, List.length_nil]
    split <;> omega
  · rw [hl, List.length_append, List.nodup_append]
    simp only [List.length_cons, List.length_nil]
    by_cases hm : k ∈ m.map (·.1)
    · rw [if_pos hm]
      constructor
      · omega
      · rintro ⟨_, _, h3⟩
        exact absurd rfl (h3 k ((h.keys k).1 hm) k (by simp))
    · rw [if_neg hm]
      have e := h.nd
      constructor
      · intro hh
        refine ⟨e.1 (by omega), by simp, fun a ha b hb hab => ?_⟩
        rw [List.mem_singleton] at hb
        subst hb hab
        exact hm ((h.keys _).2 ha)
      · rintro ⟨h1, _⟩
        have := e.2 h1
        omega
  · rw [mget_mset] at hg
    rw [List.length_append]
    simp only [List.length_cons, List.length_nil]
    split at hg
    · cases hg; omega
    · have := h.val k' v hg; omega
def dupX (l : List Rec) : Prop := ¬ (l.map (·.Txn.k)).Nodup
instance {l : List Rec} : Decidable (dupX l) := by unfold dupX; infer_instance
set_option maxHeartbeats 4000000 in
set_option maxRecDepth 20000 in
theorem twiceT_spec {W0 : World} {H : Heap} {v : Value} {l : List Rec} (h0 : SlR rRec 9 H v l) (hn : l.length ≤ 1000000) :
    Ct Tryz.prog 79 #[v] W0 H [] (fun r H' B => r = .bool (decide (dupX l)) ∧ B = []) := by
  refine Ct.go (vs := [v]) fun R => ?_
  obtain ⟨b0, c0, rfl, hc0, hd0⟩ := h0.shape
  refine walk ?_
  refine ops_makeMap ek3 rInt false rfl fun mb _ => ?_
  refine walk ?_
  refine ex_loop (σ := Nat × List (K3 × Int)) (fun u => u.1 ≤ l.length ∧ Cnt ((l.map (·.Txn.k)).take u.1) u.2) (fun u => [(0, .slice b0 l.length c0), (3, .map (some mb)), (7, .slice b0 l.length c0), (8, I l.length), (9, I u.1)]) (fun _ => H) (fun u => mapO ek3 rInt false H mb u.2 :: R) (fun u => l.length - u.1) (0, []) ⟨Nat.zero_le _, ⟨by simp, by simp, by simp, fun k v h => by cases h⟩⟩ fun ⟨k, m⟩ ⟨hk0, hC⟩ K hL => ?_
  simp only at hk0 hC
  dsimp only
  refine ex_know (A := mapO ek3 rInt false H mb m) (by repeat (first | exact Has.here | apply Has.there)) (fun h ho => mapO_know ho) fun hkw => ?_
  refine walk ?_
  refine ex_if rfl (fun hk => ?_) (fun hk => ?_)
  · have hk1 : k < l.length := by omega
    have hk2 : k < (l.map (·.Txn.k)).length := by simpa using hk1
    have ht := List.take_succ_eq_append_getElem hk2
    have hgk : (l.map (·.Txn.k))[k] = l[k].Txn.k := by simp
    have hC2 := hC.snoc hkw.2 l[k].Txn.k
    rw [hgk] at ht
    rw [← ht] at hC2
    have hval : 0 ≤ (mget l[k].Txn.k m).getD 0 ∧ (mget l[k].Txn.k m).getD 0 ≤ 1000000 := by
      cases hg : mget l[k].Txn.k m with
      | none => simp
      | some v =>
        have := hC.val _ _ hg
        rw [List.length_take] at this
        simp only [Option.getD_some]
        omega
    refine walk ?_
    refine ops_ixp rfl rfl h0 hk1 fun b o c hr hc => ?_
    obtain ⟨s1, s2, s3, rfl, g1, g2, g3, g4, g5, g6, g7, g8⟩ := hc
    generalize l[k] = q at hr g1 g2 g3 g4 g5 g6 g7 g8 hval hC2
    obtain ⟨qk, ⟨xa, xb, xc⟩, ⟨wr, wt, wd⟩, qy, qp⟩ := q
    dsimp only at hr g1 g2 g3 g4 g5 g6 g7 g8 hval hC2
    obtain ⟨sb1, sc1, rfl, _, _⟩ := g6.1.shape
    obtain ⟨sb2, sc2, rfl, _, _⟩ := g7.1.shape
    obtain ⟨sb3, sc3, rfl, _, _⟩ := g8.1.shape
    change HRow H b o [I qk, I xa, I xb, I xc, I wr, .slice sb1 wt.length sc1, .slice sb2 wd.length sc2, .bool qy, .slice sb3 qp.length sc3] at hr
    refine ops_ldNH rfl rfl hr rfl ?_
    refine ops_alloc rfl fun p5 _ => ?_
    refine walk ?_
    refine ex_any 3 [row p5 48 [I qk, I xa, I xb, I xc, I wr, .slice sb1 wt.length sc1, .slice sb2 wd.length sc2, .bool qy, .slice sb3 qp.length sc3]] ?_
    refine stepY 0 ?_; refine stepY 1 ?_; refine stepY 2 ?_
    refine any_stage 7 [] ?_
    change 0 ≤ (mget (xa, xb, xc) m).getD 0 ∧ (mget (xa, xb, xc) m).getD 0 ≤ 1000000 at hval
    change Cnt _ (mset (xa, xb, xc) ((mget (xa, xb, xc) m).getD 0 + 1) m) at hC2
    have hadd : fits ((mget (xa, xb, xc) m).getD 0 + 1) := by unfold fits; omega
    refine any_w2 3 5 rfl rfl ((op_lkO (k := (xa, xb, xc)) (ek := ek3) (d := (0 : Int)) (val := fun x => .int .i64 x) rfl rfl (by repeat (first | exact Has.here | apply Has.there))).toW ⟨.refl _, subA, ?_⟩) (op_mapEntry (ky := (xa, xb, xc)) (z := I 0) rfl rfl (by repeat (first | exact Has.here | apply Has.there)) fun v st => ⟨.refl _, subA, ?_⟩)
    · refine stepY 4 ?_
      refine any_w 5 rfl (op_mapEntry (ky := (xa, xb, xc)) (z := I 0) rfl rfl (by repeat (first | exact Has.here | apply Has.there)) fun v st => ⟨.refl _, subA, ?_⟩)
      refine gny_ext 6 rfl rfl rfl rfl ?_
      refine any_rest rfl ?_
      refine ops_estore (RV := rInt) (u := (mget (xa, xb, xc) m).getD 0 + 1) (cs := [I ((mget (xa, xb, xc) m).getD 0 + 1)]) rfl rfl ⟨rfl, hadd⟩ (by repeat (first | exact Has.here | apply Has.there)) ?_
      refine walk ?_
      exact out_next hL (k + 1, _) ⟨by simp only; omega, hC2⟩
    · refine gny_ext 6 rfl rfl rfl rfl ?_
      refine any_w 3 rfl ((op_lkE (ky := (xa, xb, xc)) (ek := ek3) (d := (0 : Int)) (val := fun x => .int .i64 x) rfl rfl (by repeat (first | exact Has.here | apply Has.there))).toW ⟨.refl _, subA, ?_⟩)
      refine stepY 4 ?_
      refine any_rest rfl ?_
      refine ops_estore (RV := rInt) (u := (mget (xa, xb, xc) m).getD 0 + 1) (cs := [I ((mget (xa, xb, xc) m).getD 0 + 1)]) rfl rfl ⟨rfl, hadd⟩ (by repeat (first | exact Has.here | apply Has.there)) ?_
      refine walk ?_
      exact out_next hL (k + 1, _) ⟨by simp only; omega, hC2⟩
  · clear hL
    obtain rfl : k = l.length := by omega
    rw [List.take_of_length_le (by simp)] at hC
    refine walk ?_
    refine ops_mlen rfl rfl (by repeat (first | exact Has.here | apply Has.there)) ?_
    refine walk ?_
    refine fin0 ?_
    refine ⟨bdec ?_, rfl⟩
    have h1 := hC.nd
    have h2 := hC.le
    rw [List.length_map] at h1 h2
    unfold dupX
    rw [← h1]
    omega
abbrev nilP : Value := .pointer none
def loadH : List (ByteArray × Int) → Int → List Hold → List (ByteArray × Int) × Int
  | m, a, [] => (m, a)
  | m, a, h :: l => loadH (mset h.Key h.Robot m) (if (mget h.Key m).isSome = true then worse a 2 else a) l
inductive LoadP : TS → Int → List Rec → TS → Int → Prop
  | nil {s : TS} {a : Int} : LoadP s a [] s a
  | cons {s s' : TS} {a a' : Int} {r : Rec} {l : List Rec} {cs : List Value} (h : LoadP (if prepE s r.Txn r.Work = 0 then prepT s r.Txn r.Work cs else s) (worse a (prepE s r.Txn r.Work)) l s' a') : LoadP s a (r :: l) s' a'
def holdF (l : List Hold) : TS := ⟨(loadH [] 0 l).1, [], []⟩
def lastE (a : Int) (prep : List Rec) : Int := if dupX prep then worse a 2 else a
set_option maxHeartbeats 8000000 in
set_option maxRecDepth 20000 in
theorem load_spec {W0 : World} {H : Heap} {v1 v2 : Value} {holds : List Hold} {prep : List Rec} (h1 : SlB rHold 2 24 H v1 holds) (h2 : SlB rRec 9 120 H v2 prep) (hp : prep.length ≤ 1000000) (hw : ∀ q ∈ prep, q.Work.ks.length * 16 ≤ cap47) :
    Ct Tryz.prog 56 #[v1, v2] W0 H [] (fun r H' B => ∃ s' a' p, LoadP (holdF holds) (loadH [] 0 holds).2 prep s' a' ∧
      if lastE a' prep = 0 then r = .tuple #[.pointer (some ⟨p, 0, none⟩), I 0] ∧ B = [tabO H' p s'] else r = .tuple #[nilP, I (lastE a' prep)] ∧ B = []) := by
  refine Ct.go (vs := [v1, v2]) fun R => ?_
  obtain ⟨b1, c1, rfl, hc1, hd1⟩ := h1.1.shape
  obtain ⟨b2, c2, rfl, hc2, hd2⟩ := h2.1.shape
  refine walk ?_
  refine ops_call (vs := []) rfl rfl new_spec fun r1 H1 B hl1 ⟨p, er, eB, eH⟩ => ?_
  subst er eB eH
  refine walk ?_
  refine ops_alloc rfl fun p7 _ => ?_
  refine walk ?_
  refine ex_open (A := tabO H1 p ⟨[], [], []⟩) (σ := Nat × Nat × Nat) (B := fun a => [tRow p a.1 a.2.1 a.2.2, hMap H1 a.1 ⟨[], [], []⟩, lMap H1 a.2.1 ⟨[], [], []⟩, wMap H1 a.2.2 ⟨[], [], []⟩]) (p := fun _ => True) (by repeat (first | exact Has.here | apply Has.there)) (fun h ⟨hb, lb, wb, hbig⟩ => ⟨(hb, lb, wb), trivial, hbig⟩) fun ⟨hb, lb, wb⟩ _ => ?_
  dsimp only
  refine ex_loop (σ := Nat × List (ByteArray × Int) × Int) (fun u => u.1 ≤ holds.length ∧ loadH u.2.1 u.2.2 (holds.drop u.1) = loadH [] 0 holds) (fun u => [(1, .slice b2 prep.length c2), (6, .pointer (some ⟨p, 0, none⟩)), (7, .pointer (some ⟨p7, 0, none⟩)), (8, .func (.func 77) #[] #[.pointer (some ⟨p7, 0, none⟩)]), (17, .slice b1 holds.length c1), (18, I holds.length), (19, I u.1)]) (fun _ => H1)
    (fun u => mapO Value.string rInt false H1 hb u.2.1 :: row p7 24 [I u.2.2] :: tRow p hb lb wb :: lMap H1 lb ⟨[], [], []⟩ :: wMap H1 wb ⟨[], [], []⟩ :: R) (fun u => holds.length - u.1) (0, [], 0) ⟨Nat.zero_le _, rfl⟩ fun ⟨k, m, a⟩ ⟨hk0, hF⟩ K hL => ?_
  simp only at hk0 hF
  dsimp only
  refine walk ?_
  refine ex_if rfl (fun hk => ?_) (fun hk => ?_)
  · have hk1 : k < holds.length := by omega
    rw [List.drop_eq_getElem_cons hk1] at hF
    rw [loadH] at hF
    refine walk ?_
    refine ops_ixp rfl rfl h1.1 hk1 fun b o c hr hc => ?_
    obtain ⟨rfl, hsz, hfr⟩ := hc
    generalize holds[k] = q at hr hsz hfr hF
    obtain ⟨qk, qr⟩ := q
    dsimp only at hr hsz hfr hF
    change HRow H1 b o [.string qk, I qr] at hr
    refine ops_ldNH rfl rfl hr rfl ?_
    refine ops_alloc rfl fun p10 _ => ?_
    refine walk ?_
    refine ops_lkA2 (RV := rInt) (ag := false) (z := 0) rfl rfl (by repeat (first | exact Has.here | apply Has.there)) ?_
    rw [show (mget qk m).isSome = decide ((mget qk m).isSome = true) by simp]
    refine walk ?_
    refine ex_if rfl (fun hq => ?_) (fun hq => ?_)
    · rw [if_pos hq] at hF
      refine walk ?_
      refine ops_callv rfl rfl rfl (note_spec (p := p7) (a := a) (e := 2)) fun r2 H2 B hl2 ⟨er, eB, eH⟩ => ?_
      subst er eB eH
      refine walk ?_
      refine ex_any 8 [tRow p hb lb wb, row p10 54 [.string qk, I qr]] ?_
      refine stepY 0 ?_; refine stepY 1 ?_; refine stepY 2 ?_; refine stepY 3 ?_; refine stepY 4 ?_; refine stepY 5 ?_; refine stepY 6 ?_; refine stepY 7 ?_
      refine any_rest rfl ?_
      refine ops_update (RV := rInt) (ag := false) (cs := [I qr]) (u := qr) rfl rfl ⟨rfl, hfr⟩ (by repeat (first | exact Has.here | apply Has.there)) ?_
      refine walk ?_
      exact out_next hL (k + 1, _, _) ⟨by simp only; omega, hF⟩
    · rw [if_neg hq] at hF
      refine walk ?_
      refine ex_any 8 [tRow p hb lb wb, row p10 54 [.string qk, I qr]] ?_
      refine stepY 0 ?_; refine stepY 1 ?_; refine stepY 2 ?_; refine stepY 3 ?_; refine stepY 4 ?_; refine stepY 5 ?_; refine stepY 6 ?_; refine stepY 7 ?_
      refine any_rest rfl ?_
      refine ops_update (RV := rInt) (ag := false) (cs := [I qr]) (u := qr) rfl rfl ⟨rfl, hfr⟩ (by repeat (first | exact Has.here | apply Has.there)) ?_
      refine walk ?_
      exact out_next hL (k + 1, _, _) ⟨by simp only; omega, hF⟩
  clear hL
  obtain rfl : k = holds.length := by omega
  rw [List.drop_length] at hF
  rw [loadH] at hF
  rw [← hF]
  have hm0 : holdF holds = ⟨m, [], []⟩ := by unfold holdF; rw [← hF]
  rw [hm0]
  dsimp only
  refine walk ?_
  refine ex_loop (σ := Nat × TS × Int × Heap) (fun u => u.1 ≤ prep.length ∧ H1.le u.2.2.2 ∧ ∀ s' a', LoadP u.2.1 u.2.2.1 (prep.drop u.1) s' a' → LoadP ⟨m, [], []⟩ a prep s' a') (fun u => [(1, .slice b2 prep.length c2), (6, .pointer (some ⟨p, 0, none⟩)), (7, .pointer (some ⟨p7, 0, none⟩)), (8, .func (.func 77) #[] #[.pointer (some ⟨p7, 0, none⟩)]), (45, .slice b2 prep.length c2), (46, I prep.length), (47, I u.1)]) (fun u => u.2.2.2)
    (fun u => tabO u.2.2.2 p u.2.1 :: row p7 24 [I u.2.2.1] :: R) (fun u => prep.length - u.1) (0, ⟨m, [], []⟩, a, H1) ⟨Nat.zero_le _, .refl _, fun _ _ h => h⟩ (hs0 := ?_) fun ⟨k, s, e, HK⟩ ⟨hk0, hlK, hP⟩ K hL => ?_
  rotate_left
  · refine Sub.trans ?_ (tab_fold (H := H1) (s := ⟨m, [], []⟩) (hb := hb) (lb := lb) (wb := wb))
    exact subA
  simp only at hk0 hlK hP
  dsimp only
  refine walk ?_
  refine ex_if rfl (fun hk => ?_) (fun hk => ?_)
  · have hk1 : k < prep.length := by omega
    rw [List.drop_eq_getElem_cons hk1] at hP
    have hwq := hw prep[k] (List.getElem_mem hk1)
    refine walk ?_
    refine ops_ixp rfl rfl (h2.mono hlK).1 hk1 fun b o c hr hc => ?_
    obtain ⟨s1, s2, s3, rfl, g1, g2, g3, g4, g5, g6, g7, g8⟩ := hc
    generalize prep[k] = q at hr g1 g2 g3 g4 g5 g6 g7 g8 hP hwq
    obtain ⟨qk, ⟨xa, xb, xc⟩, ⟨wr, wt, wd⟩, qy, qp⟩ := q
    dsimp only at hr g1 g2 g3 g4 g5 g6 g7 g8 hP hwq
    obtain ⟨sb1, sc1, rfl, _, _⟩ := g6.1.shape
    obtain ⟨sb2, sc2, rfl, _, _⟩ := g7.1.shape
    obtain ⟨sb3, sc3, rfl, _, _⟩ := g8.1.shape
    change HRow HK b o [I qk, I xa, I xb, I xc, I wr, .slice sb1 wt.length sc1, .slice sb2 wd.length sc2, .bool qy, .slice sb3 qp.length sc3] at hr
    refine ops_ldNH rfl rfl hr rfl ?_
    refine ops_alloc rfl fun p14 _ => ?_
    refine walk ?_
    have hpr := prepare_spec (W0 := W0) (H := HK) (p := p) (s := s) (x := ⟨xa, xb, xc⟩) (w := ⟨wr, wt, wd⟩) ⟨g2, g3, g4⟩ ⟨_, _, rfl, g5, g6, g7⟩ hwq
    refine ops_call rfl rfl hpr fun r2 H2 B hl2 ⟨er, cs, hcs, eB⟩ => ?_
    subst er eB
    refine ops_callv rfl rfl rfl (note_spec (p := p7) (a := e) (e := prepE s ⟨xa, xb, xc⟩ ⟨wr, wt, wd⟩)) fun r3 H3 B hl3 ⟨er, eB, eH⟩ => ?_
    subst er eB eH
    refine walk ?_
    exact out_next hL (k + 1, _, _, H3) ⟨by simp only; omega, hlK.trans hl2, fun s' a' h => hP s' a' (.cons (cs := cs) h)⟩
  clear hL
  obtain rfl : k = prep.length := by omega
  rw [List.drop_length] at hP
  have hLP := hP s e .nil
  clear hP
  refine walk ?_
  refine ops_call rfl rfl (twiceT_spec (h2.mono hlK).1 hp) fun r4 H4 B hl4 ⟨er, eB⟩ => ?_
  subst er eB
  refine ops_L (L' := tabO H4 p s :: row p7 24 [I e] :: R) ?_ ?_
  · refine Sub.trans ?_ (tab_up hl4)
    exact subA
  refine walk ?_
  refine ex_if rfl (fun hd => ?_) (fun hd => ?_)
  · have hE : lastE e prep = worse e 2 := if_pos hd
    refine walk ?_
    refine ops_callv rfl rfl rfl (note_spec (p := p7) (a := e) (e := 2)) fun r5 H5 B hl5 ⟨er, eB, eH⟩ => ?_
    subst er eB eH
    refine walk ?_
    refine ex_if rfl (fun hz => ?_) (fun hz => ?_)
    · refine walk ?_
      refine fin0 ?_
      refine ⟨s, e, 0, hLP, ?_⟩
      rw [hE, if_neg hz]
      exact ⟨rfl, rfl⟩
    · have hz' : worse e 2 = 0 := Classical.byContradiction hz
      refine walk ?_
      refine finB [tabO _ p s] ?_
      refine ⟨s, e, p, hLP, ?_⟩
      rw [hE, if_pos hz']
      exact ⟨rfl, rfl⟩
  · have hE : lastE e prep = e := if_neg hd
    refine walk ?_
    refine ex_if rfl (fun hz => ?_) (fun hz => ?_)
    · refine walk ?_
      refine fin0 ?_
      refine ⟨s, e, 0, hLP, ?_⟩
      rw [hE, if_neg hz]
      exact ⟨rfl, rfl⟩
    · have hz' : e = 0 := Classical.byContradiction hz
      refine walk ?_
      refine finB [tabO _ p s] ?_
      refine ⟨s, e, p, hLP, ?_⟩
      rw [hE, if_pos hz']
      exact ⟨rfl, rfl⟩
end Go.Proofs.YtpphdbnifbjfmaaGreatDoor
