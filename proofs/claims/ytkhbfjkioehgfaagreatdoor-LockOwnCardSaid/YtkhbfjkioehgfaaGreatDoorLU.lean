/- Load, walked. -/
import Derived.Test.YtkhbfjkioehgfaaGreatDoorLT
import Derived.Test.YtkhbfjkioehgfaaGreatDoorLV
set_option linter.unusedVariables false
set_option linter.unusedSimpArgs false
namespace Go.Proofs.YtkhbfjkioehgfaaGreatDoor
open Go Go.Sx Go.Proofs
abbrev nilP : Value := .pointer none
/-- the holds, one by one: what is held, the worst error -/
def loadH : List (ByteArray × Int) → Int → List Hold → List (ByteArray × Int) × Int
  | m, a, [] => (m, a)
  | m, a, h :: l => loadH (mset h.Key h.Robot m) (if (mget h.Key m).isSome = true then worse a 2 else a) l
/-- the records, one by one -/
inductive LoadP : TS → Int → List Rec → TS → Int → Prop
  | nil {s : TS} {a : Int} : LoadP s a [] s a
  | cons {s s' : TS} {a a' : Int} {r : Rec} {l : List Rec} {cs : List Value} (h : LoadP (if prepE s r.Txn r.Work = 0 then prepT s r.Txn r.Work cs else s) (worse a (prepE s r.Txn r.Work)) l s' a') : LoadP s a (r :: l) s' a'
def holdF (l : List Hold) : TS := ⟨(loadH [] 0 l).1, [], []⟩
def lastE (a : Int) (prep : List Rec) : Int := if dupX prep then worse a 2 else a
set_option maxHeartbeats 8000000 in
set_option maxRecDepth 20000 in
theorem load_spec {W0 : World} {H : Heap} {v1 v2 : Value} {holds : List Hold} {prep : List Rec} (h1 : SlB rHold 2 24 H v1 holds) (h2 : SlB rRec 9 120 H v2 prep) (hp : prep.length ≤ 1000000) (hw : ∀ q ∈ prep, q.Work.ks.length * 16 ≤ cap47) :
    Ct Tryz.prog 20 #[v1, v2] W0 H [] (fun r H' B => ∃ s' a' p, LoadP (holdF holds) (loadH [] 0 holds).2 prep s' a' ∧
      if lastE a' prep = 0 then r = .tuple #[.pointer (some ⟨p, 0, none⟩), I 0] ∧ B = [tabO H' p s'] else r = .tuple #[nilP, I (lastE a' prep)] ∧ B = []) := by
  refine Ct.go (vs := [v1, v2]) fun R => ?_
  obtain ⟨b1, c1, rfl, hc1, hd1⟩ := h1.1.shape
  obtain ⟨b2, c2, rfl, hc2, hd2⟩ := h2.1.shape
  refine walk ?_
  refine ops_call (vs := []) rfl rfl new_spec fun r1 H1 B hl1 ⟨p, er, eB, eH⟩ => ?_
  subst er eB eH
  refine walk ?_
  refine ops_alloc rfl fun p7 _ => ?_
  refine walk ?_
  refine ex_open (A := tabO H1 p ⟨[], [], []⟩) (σ := Nat × Nat × Nat) (B := fun a => [tRow p a.1 a.2.1 a.2.2, hMap H1 a.1 ⟨[], [], []⟩, lMap H1 a.2.1 ⟨[], [], []⟩, wMap H1 a.2.2 ⟨[], [], []⟩]) (p := fun _ => True) (by repeat (first | exact Has.here | apply Has.there)) (fun h ⟨hb, lb, wb, hbig⟩ => ⟨(hb, lb, wb), trivial, hbig⟩) fun ⟨hb, lb, wb⟩ _ => ?_
  dsimp only
  refine ex_loop (σ := Nat × List (ByteArray × Int) × Int) (fun u => u.1 ≤ holds.length ∧ loadH u.2.1 u.2.2 (holds.drop u.1) = loadH [] 0 holds) (fun u => [(1, .slice b2 prep.length c2), (6, .pointer (some ⟨p, 0, none⟩)), (7, .pointer (some ⟨p7, 0, none⟩)), (8, .func (.func 35) #[] #[.pointer (some ⟨p7, 0, none⟩)]), (17, .slice b1 holds.length c1), (18, I holds.length), (19, I u.1)]) (fun _ => H1)
    (fun u => mapO Value.string rInt false H1 hb u.2.1 :: row p7 33 [I u.2.2] :: tRow p hb lb wb :: lMap H1 lb ⟨[], [], []⟩ :: wMap H1 wb ⟨[], [], []⟩ :: R) (fun u => holds.length - u.1) (0, [], 0) ⟨Nat.zero_le _, rfl⟩ fun ⟨k, m, a⟩ ⟨hk0, hF⟩ K hL => ?_
  simp only at hk0 hF
  dsimp only
  refine walk ?_
  refine ex_if rfl (fun hk => ?_) (fun hk => ?_)
  · have hk1 : k < holds.length := by omega
    rw [List.drop_eq_getElem_cons hk1] at hF
    rw [loadH] at hF
    refine walk ?_
    refine ops_ixp rfl rfl h1.1 hk1 fun b o c hr hc => ?_
    obtain ⟨rfl, hsz, hfr⟩ := hc
    generalize holds[k] = q at hr hsz hfr hF
    obtain ⟨qk, qr⟩ := q
    dsimp only at hr hsz hfr hF
    change HRow H1 b o [.string qk, I qr] at hr
    refine ops_ldNH rfl rfl hr rfl ?_
    refine ops_alloc rfl fun p10 _ => ?_
    refine walk ?_
    refine ops_lkA2 (RV := rInt) (ag := false) (z := 0) rfl rfl (by repeat (first | exact Has.here | apply Has.there)) ?_
    rw [show (mget qk m).isSome = decide ((mget qk m).isSome = true) by simp]
    refine walk ?_
    refine ex_if rfl (fun hq => ?_) (fun hq => ?_)
    · rw [if_pos hq] at hF
      refine walk ?_
      refine ops_callv rfl rfl rfl (note_spec (p := p7) (a := a) (e := 2)) fun r2 H2 B hl2 ⟨er, eB, eH⟩ => ?_
      subst er eB eH
      refine walk ?_
      refine ex_any 8 [tRow p hb lb wb, row p10 43 [.string qk, I qr]] ?_
      (first | refine gny_p 0 rfl rfl rfl ?_ | refine gny_ld 0 rfl rfl rfl rfl ?_ | refine gny_ldH 0 rfl rfl rfl ‹HRow _ _ 0 _› rfl ?_ | refine gny_T 0 rfl rfl rfl ?_ | refine gny_F 0 rfl rfl rfl ?_ | refine gny_B 0 rfl rfl rfl ?_ | refine gny_skip 0 rfl rfl ?_ | refine gny_sp 0 rfl rfl rfl ?_ | refine gny_sB 0 rfl rfl rfl ?_ | refine gny_sld 0 rfl rfl rfl rfl ?_ | refine gny_sldH 0 rfl rfl rfl ‹HRow _ _ 0 _› rfl ?_ | refine gny_ldN 0 rfl rfl rfl rfl ?_ | refine gny_bld 0 rfl rfl rfl ?_); (first | refine gny_p 1 rfl rfl rfl ?_ | refine gny_ld 1 rfl rfl rfl rfl ?_ | refine gny_ldH 1 rfl rfl rfl ‹HRow _ _ 0 _› rfl ?_ | refine gny_T 1 rfl rfl rfl ?_ | refine gny_F 1 rfl rfl rfl ?_ | refine gny_B 1 rfl rfl rfl ?_ | refine gny_skip 1 rfl rfl ?_ | refine gny_sp 1 rfl rfl rfl ?_ | refine gny_sB 1 rfl rfl rfl ?_ | refine gny_sld 1 rfl rfl rfl rfl ?_ | refine gny_sldH 1 rfl rfl rfl ‹HRow _ _ 0 _› rfl ?_ | refine gny_ldN 1 rfl rfl rfl rfl ?_ | refine gny_bld 1 rfl rfl rfl ?_); (first | refine gny_p 2 rfl rfl rfl ?_ | refine gny_ld 2 rfl rfl rfl rfl ?_ | refine gny_ldH 2 rfl rfl rfl ‹HRow _ _ 0 _› rfl ?_ | refine gny_T 2 rfl rfl rfl ?_ | refine gny_F 2 rfl rfl rfl ?_ | refine gny_B 2 rfl rfl rfl ?_ | refine gny_skip 2 rfl rfl ?_ | refine gny_sp 2 rfl rfl rfl ?_ | refine gny_sB 2 rfl rfl rfl ?_ | refine gny_sld 2 rfl rfl rfl rfl ?_ | refine gny_sldH 2 rfl rfl rfl ‹HRow _ _ 0 _› rfl ?_ | refine gny_ldN 2 rfl rfl rfl rfl ?_ | refine gny_bld 2 rfl rfl rfl ?_); (first | refine gny_p 3 rfl rfl rfl ?_ | refine gny_ld 3 rfl rfl rfl rfl ?_ | refine gny_ldH 3 rfl rfl rfl ‹HRow _ _ 0 _› rfl ?_ | refine gny_T 3 rfl rfl rfl ?_ | refine gny_F 3 rfl rfl rfl ?_ | refine gny_B 3 rfl rfl rfl ?_ | refine gny_skip 3 rfl rfl ?_ | refine gny_sp 3 rfl rfl rfl ?_ | refine gny_sB 3 rfl rfl rfl ?_ | refine gny_sld 3 rfl rfl rfl rfl ?_ | refine gny_sldH 3 rfl rfl rfl ‹HRow _ _ 0 _› rfl ?_ | refine gny_ldN 3 rfl rfl rfl rfl ?_ | refine gny_bld 3 rfl rfl rfl ?_); (first | refine gny_p 4 rfl rfl rfl ?_ | refine gny_ld 4 rfl rfl rfl rfl ?_ | refine gny_ldH 4 rfl rfl rfl ‹HRow _ _ 0 _› rfl ?_ | refine gny_T 4 rfl rfl rfl ?_ | refine gny_F 4 rfl rfl rfl ?_ | refine gny_B 4 rfl rfl rfl ?_ | refine gny_skip 4 rfl rfl ?_ | refine gny_sp 4 rfl rfl rfl ?_ | refine gny_sB 4 rfl rfl rfl ?_ | refine gny_sld 4 rfl rfl rfl rfl ?_ | refine gny_sldH 4 rfl rfl rfl ‹HRow _ _ 0 _› rfl ?_ | refine gny_ldN 4 rfl rfl rfl rfl ?_ | refine gny_bld 4 rfl rfl rfl ?_); (first | refine gny_p 5 rfl rfl rfl ?_ | refine gny_ld 5 rfl rfl rfl rfl ?_ | refine gny_ldH 5 rfl rfl rfl ‹HRow _ _ 0 _› rfl ?_ | refine gny_T 5 rfl rfl rfl ?_ | refine gny_F 5 rfl rfl rfl ?_ | refine gny_B 5 rfl rfl rfl ?_ | refine gny_skip 5 rfl rfl ?_ | refine gny_sp 5 rfl rfl rfl ?_ | refine gny_sB 5 rfl rfl rfl ?_ | refine gny_sld 5 rfl rfl rfl rfl ?_ | refine gny_sldH 5 rfl rfl rfl ‹HRow _ _ 0 _› rfl ?_ | refine gny_ldN 5 rfl rfl rfl rfl ?_ | refine gny_bld 5 rfl rfl rfl ?_); (first | refine gny_p 6 rfl rfl rfl ?_ | refine gny_ld 6 rfl rfl rfl rfl ?_ | refine gny_ldH 6 rfl rfl rfl ‹HRow _ _ 0 _› rfl ?_ | refine gny_T 6 rfl rfl rfl ?_ | refine gny_F 6 rfl rfl rfl ?_ | refine gny_B 6 rfl rfl rfl ?_ | refine gny_skip 6 rfl rfl ?_ | refine gny_sp 6 rfl rfl rfl ?_ | refine gny_sB 6 rfl rfl rfl ?_ | refine gny_sld 6 rfl rfl rfl rfl ?_ | refine gny_sldH 6 rfl rfl rfl ‹HRow _ _ 0 _› rfl ?_ | refine gny_ldN 6 rfl rfl rfl rfl ?_ | refine gny_bld 6 rfl rfl rfl ?_); (first | refine gny_p 7 rfl rfl rfl ?_ | refine gny_ld 7 rfl rfl rfl rfl ?_ | refine gny_ldH 7 rfl rfl rfl ‹HRow _ _ 0 _› rfl ?_ | refine gny_T 7 rfl rfl rfl ?_ | refine gny_F 7 rfl rfl rfl ?_ | refine gny_B 7 rfl rfl rfl ?_ | refine gny_skip 7 rfl rfl ?_ | refine gny_sp 7 rfl rfl rfl ?_ | refine gny_sB 7 rfl rfl rfl ?_ | refine gny_sld 7 rfl rfl rfl rfl ?_ | refine gny_sldH 7 rfl rfl rfl ‹HRow _ _ 0 _› rfl ?_ | refine gny_ldN 7 rfl rfl rfl rfl ?_ | refine gny_bld 7 rfl rfl rfl ?_)
      refine any_rest rfl ?_
      refine ops_update (RV := rInt) (ag := false) (cs := [I qr]) (u := qr) rfl rfl ⟨rfl, hfr⟩ (by repeat (first | exact Has.here | apply Has.there)) ?_
      refine walk ?_
      exact out_next hL (k + 1, _, _) ⟨by simp only; omega, hF⟩
    · rw [if_neg hq] at hF
      refine walk ?_
      refine ex_any 8 [tRow p hb lb wb, row p10 43 [.string qk, I qr]] ?_
      (first | refine gny_p 0 rfl rfl rfl ?_ | refine gny_ld 0 rfl rfl rfl rfl ?_ | refine gny_ldH 0 rfl rfl rfl ‹HRow _ _ 0 _› rfl ?_ | refine gny_T 0 rfl rfl rfl ?_ | refine gny_F 0 rfl rfl rfl ?_ | refine gny_B 0 rfl rfl rfl ?_ | refine gny_skip 0 rfl rfl ?_ | refine gny_sp 0 rfl rfl rfl ?_ | refine gny_sB 0 rfl rfl rfl ?_ | refine gny_sld 0 rfl rfl rfl rfl ?_ | refine gny_sldH 0 rfl rfl rfl ‹HRow _ _ 0 _› rfl ?_ | refine gny_ldN 0 rfl rfl rfl rfl ?_ | refine gny_bld 0 rfl rfl rfl ?_); (first | refine gny_p 1 rfl rfl rfl ?_ | refine gny_ld 1 rfl rfl rfl rfl ?_ | refine gny_ldH 1 rfl rfl rfl ‹HRow _ _ 0 _› rfl ?_ | refine gny_T 1 rfl rfl rfl ?_ | refine gny_F 1 rfl rfl rfl ?_ | refine gny_B 1 rfl rfl rfl ?_ | refine gny_skip 1 rfl rfl ?_ | refine gny_sp 1 rfl rfl rfl ?_ | refine gny_sB 1 rfl rfl rfl ?_ | refine gny_sld 1 rfl rfl rfl rfl ?_ | refine gny_sldH 1 rfl rfl rfl ‹HRow _ _ 0 _› rfl ?_ | refine gny_ldN 1 rfl rfl rfl rfl ?_ | refine gny_bld 1 rfl rfl rfl ?_); (first | refine gny_p 2 rfl rfl rfl ?_ | refine gny_ld 2 rfl rfl rfl rfl ?_ | refine gny_ldH 2 rfl rfl rfl ‹HRow _ _ 0 _› rfl ?_ | refine gny_T 2 rfl rfl rfl ?_ | refine gny_F 2 rfl rfl rfl ?_ | refine gny_B 2 rfl rfl rfl ?_ | refine gny_skip 2 rfl rfl ?_ | refine gny_sp 2 rfl rfl rfl ?_ | refine gny_sB 2 rfl rfl rfl ?_ | refine gny_sld 2 rfl rfl rfl rfl ?_ | refine gny_sldH 2 rfl rfl rfl ‹HRow _ _ 0 _› rfl ?_ | refine gny_ldN 2 rfl rfl rfl rfl ?_ | refine gny_bld 2 rfl rfl rfl ?_); (first | refine gny_p 3 rfl rfl rfl ?_ | refine gny_ld 3 rfl rfl rfl rfl ?_ | refine gny_ldH 3 rfl rfl rfl ‹HRow _ _ 0 _› rfl ?_ | refine gny_T 3 rfl rfl rfl ?_ | refine gny_F 3 rfl rfl rfl ?_ | refine gny_B 3 rfl rfl rfl ?_ | refine gny_skip 3 rfl rfl ?_ | refine gny_sp 3 rfl rfl rfl ?_ | refine gny_sB 3 rfl rfl rfl ?_ | refine gny_sld 3 rfl rfl rfl rfl ?_ | refine gny_sldH 3 rfl rfl rfl ‹HRow _ _ 0 _› rfl ?_ | refine gny_ldN 3 rfl rfl rfl rfl ?_ | refine gny_bld 3 rfl rfl rfl ?_); (first | refine gny_p 4 rfl rfl rfl ?_ | refine gny_ld 4 rfl rfl rfl rfl ?_ | refine gny_ldH 4 rfl rfl rfl ‹HRow _ _ 0 _› rfl ?_ | refine gny_T 4 rfl rfl rfl ?_ | refine gny_F 4 rfl rfl rfl ?_ | refine gny_B 4 rfl rfl rfl ?_ | refine gny_skip 4 rfl rfl ?_ | refine gny_sp 4 rfl rfl rfl ?_ | refine gny_sB 4 rfl rfl rfl ?_ | refine gny_sld 4 rfl rfl rfl rfl ?_ | refine gny_sldH 4 rfl rfl rfl ‹HRow _ _ 0 _› rfl ?_ | refine gny_ldN 4 rfl rfl rfl rfl ?_ | refine gny_bld 4 rfl rfl rfl ?_); (first | refine gny_p 5 rfl rfl rfl ?_ | refine gny_ld 5 rfl rfl rfl rfl ?_ | refine gny_ldH 5 rfl rfl rfl ‹HRow _ _ 0 _› rfl ?_ | refine gny_T 5 rfl rfl rfl ?_ | refine gny_F 5 rfl rfl rfl ?_ | refine gny_B 5 rfl rfl rfl ?_ | refine gny_skip 5 rfl rfl ?_ | refine gny_sp 5 rfl rfl rfl ?_ | refine gny_sB 5 rfl rfl rfl ?_ | refine gny_sld 5 rfl rfl rfl rfl ?_ | refine gny_sldH 5 rfl rfl rfl ‹HRow _ _ 0 _› rfl ?_ | refine gny_ldN 5 rfl rfl rfl rfl ?_ | refine gny_bld 5 rfl rfl rfl ?_); (first | refine gny_p 6 rfl rfl rfl ?_ | refine gny_ld 6 rfl rfl rfl rfl ?_ | refine gny_ldH 6 rfl rfl rfl ‹HRow _ _ 0 _› rfl ?_ | refine gny_T 6 rfl rfl rfl ?_ | refine gny_F 6 rfl rfl rfl ?_ | refine gny_B 6 rfl rfl rfl ?_ | refine gny_skip 6 rfl rfl ?_ | refine gny_sp 6 rfl rfl rfl ?_ | refine gny_sB 6 rfl rfl rfl ?_ | refine gny_sld 6 rfl rfl rfl rfl ?_ | refine gny_sldH 6 rfl rfl rfl ‹HRow _ _ 0 _› rfl ?_ | refine gny_ldN 6 rfl rfl rfl rfl ?_ | refine gny_bld 6 rfl rfl rfl ?_); (first | refine gny_p 7 rfl rfl rfl ?_ | refine gny_ld 7 rfl rfl rfl rfl ?_ | refine gny_ldH 7 rfl rfl rfl ‹HRow _ _ 0 _› rfl ?_ | refine gny_T 7 rfl rfl rfl ?_ | refine gny_F 7 rfl rfl rfl ?_ | refine gny_B 7 rfl rfl rfl ?_ | refine gny_skip 7 rfl rfl ?_ | refine gny_sp 7 rfl rfl rfl ?_ | refine gny_sB 7 rfl rfl rfl ?_ | refine gny_sld 7 rfl rfl rfl rfl ?_ | refine gny_sldH 7 rfl rfl rfl ‹HRow _ _ 0 _› rfl ?_ | refine gny_ldN 7 rfl rfl rfl rfl ?_ | refine gny_bld 7 rfl rfl rfl ?_)
      refine any_rest rfl ?_
      refine ops_update (RV := rInt) (ag := false) (cs := [I qr]) (u := qr) rfl rfl ⟨rfl, hfr⟩ (by repeat (first | exact Has.here | apply Has.there)) ?_
      refine walk ?_
      exact out_next hL (k + 1, _, _) ⟨by simp only; omega, hF⟩
  clear hL
  obtain rfl : k = holds.length := by omega
  rw [List.drop_length] at hF
  rw [loadH] at hF
  rw [← hF]
  have hm0 : holdF holds = ⟨m, [], []⟩ := by unfold holdF; rw [← hF]
  rw [hm0]
  dsimp only
  refine walk ?_
  refine ex_loop (σ := Nat × TS × Int × Heap) (fun u => u.1 ≤ prep.length ∧ H1.le u.2.2.2 ∧ ∀ s' a', LoadP u.2.1 u.2.2.1 (prep.drop u.1) s' a' → LoadP ⟨m, [], []⟩ a prep s' a') (fun u => [(1, .slice b2 prep.length c2), (6, .pointer (some ⟨p, 0, none⟩)), (7, .pointer (some ⟨p7, 0, none⟩)), (8, .func (.func 35) #[] #[.pointer (some ⟨p7, 0, none⟩)]), (45, .slice b2 prep.length c2), (46, I prep.length), (47, I u.1)]) (fun u => u.2.2.2)
    (fun u => tabO u.2.2.2 p u.2.1 :: row p7 33 [I u.2.2.1] :: R) (fun u => prep.length - u.1) (0, ⟨m, [], []⟩, a, H1) ⟨Nat.zero_le _, .refl _, fun _ _ h => h⟩ (hs0 := ?_) fun ⟨k, s, e, HK⟩ ⟨hk0, hlK, hP⟩ K hL => ?_
  rotate_left
  · refine Sub.trans ?_ (tab_fold (H := H1) (s := ⟨m, [], []⟩) (hb := hb) (lb := lb) (wb := wb))
    (repeat (first | exact Sub.refl _ | exact Sub.nil _ | (apply sub_pick; (repeat (first | exact Has.here | apply Has.there)); skip) | apply Sub.drop))
  simp only at hk0 hlK hP
  dsimp only
  refine walk ?_
  refine ex_if rfl (fun hk => ?_) (fun hk => ?_)
  · have hk1 : k < prep.length := by omega
    rw [List.drop_eq_getElem_cons hk1] at hP
    have hwq := hw prep[k] (List.getElem_mem hk1)
    refine walk ?_
    refine ops_ixp rfl rfl (h2.mono hlK).1 hk1 fun b o c hr hc => ?_
    obtain ⟨s1, s2, s3, rfl, g1, g2, g3, g4, g5, g6, g7, g8⟩ := hc
    generalize prep[k] = q at hr g1 g2 g3 g4 g5 g6 g7 g8 hP hwq
    obtain ⟨qk, ⟨xa, xb, xc⟩, ⟨wr, wt, wd⟩, qy, qp⟩ := q
    dsimp only at hr g1 g2 g3 g4 g5 g6 g7 g8 hP hwq
    obtain ⟨sb1, sc1, rfl, _, _⟩ := g6.1.shape
    obtain ⟨sb2, sc2, rfl, _, _⟩ := g7.1.shape
    obtain ⟨sb3, sc3, rfl, _, _⟩ := g8.1.shape
    change HRow HK b o [I qk, I xa, I xb, I xc, I wr, .slice sb1 wt.length sc1, .slice sb2 wd.length sc2, .bool qy, .slice sb3 qp.length sc3] at hr
    refine ops_ldNH rfl rfl hr rfl ?_
    refine ops_alloc rfl fun p14 _ => ?_
    refine walk ?_
    have hpr := prepare_spec (W0 := W0) (H := HK) (p := p) (s := s) (x := ⟨xa, xb, xc⟩) (w := ⟨wr, wt, wd⟩) ⟨g2, g3, g4⟩ ⟨_, _, rfl, g5, g6, g7⟩ hwq
    refine ops_call rfl rfl hpr fun r2 H2 B hl2 ⟨er, cs, hcs, eB⟩ => ?_
    subst er eB
    refine ops_callv rfl rfl rfl (note_spec (p := p7) (a := e) (e := prepE s ⟨xa, xb, xc⟩ ⟨wr, wt, wd⟩)) fun r3 H3 B hl3 ⟨er, eB, eH⟩ => ?_
    subst er eB eH
    refine walk ?_
    exact out_next hL (k + 1, _, _, H3) ⟨by simp only; omega, hlK.trans hl2, fun s' a' h => hP s' a' (.cons (cs := cs) h)⟩
  clear hL
  obtain rfl : k = prep.length := by omega
  rw [List.drop_length] at hP
  have hLP := hP s e .nil
  clear hP
  refine walk ?_
  refine ops_call rfl rfl (twiceT_spec (h2.mono hlK).1 hp) fun r4 H4 B hl4 ⟨er, eB⟩ => ?_
  subst er eB
  refine ops_L (L' := tabO H4 p s :: row p7 33 [I e] :: R) ?_ ?_
  · refine Sub.trans ?_ (tab_up hl4)
    (repeat (first | exact Sub.refl _ | exact Sub.nil _ | (apply sub_pick; (repeat (first | exact Has.here | apply Has.there)); skip) | apply Sub.drop))
  refine walk ?_
  refine ex_if rfl (fun hd => ?_) (fun hd => ?_)
  · have hE : lastE e prep = worse e 2 := if_pos hd
    refine walk ?_
    refine ops_callv rfl rfl rfl (note_spec (p := p7) (a := e) (e := 2)) fun r5 H5 B hl5 ⟨er, eB, eH⟩ => ?_
    subst er eB eH
    refine walk ?_
    refine ex_if rfl (fun hz => ?_) (fun hz => ?_)
    · refine walk ?_
      refine fin0 ?_
      refine ⟨s, e, 0, hLP, ?_⟩
      rw [hE, if_neg hz]
      exact ⟨rfl, rfl⟩
    · have hz' : worse e 2 = 0 := Classical.byContradiction hz
      refine walk ?_
      refine finB [tabO _ p s] ?_
      refine ⟨s, e, p, hLP, ?_⟩
      rw [hE, if_pos hz']
      exact ⟨rfl, rfl⟩
  · have hE : lastE e prep = e := if_neg hd
    refine walk ?_
    refine ex_if rfl (fun hz => ?_) (fun hz => ?_)
    · refine walk ?_
      refine fin0 ?_
      refine ⟨s, e, 0, hLP, ?_⟩
      rw [hE, if_neg hz]
      exact ⟨rfl, rfl⟩
    · have hz' : e = 0 := Classical.byContradiction hz
      refine walk ?_
      refine finB [tabO _ p s] ?_
      refine ⟨s, e, p, hLP, ?_⟩
      rw [hE, if_pos hz']
      exact ⟨rfl, rfl⟩
end Go.Proofs.YtkhbfjkioehgfaaGreatDoor
