/- A coordinator: Load. -/
import Derived.Test.YtpphdbnifbjfmaaGreatDoorJE48
import Derived.Test.YtpphdbnifbjfmaaGreatDoorJTN
set_option linter.unusedVariables false
set_option linter.unusedSimpArgs false
namespace Go.Proofs.YtpphdbnifbjfmaaGreatDoor
open Go Go.Sx Go.Proofs
def CLoadQ (node life : Int) (l : List Rec) (r : Value) (H' : Heap) (B : List HProp) : Prop :=
  ((∃ q ∈ l, ¬ OkR node life q) ∧ r = .tuple #[.pointer none, I 1] ∧ B = []) ∨
  ((∀ q ∈ l, OkR node life q) ∧ ¬ (l.map (·.Txn.k)).Nodup ∧ r = .tuple #[.pointer none, I 2] ∧ B = []) ∨
  ((∀ q ∈ l, OkR node life q) ∧ (l.map (·.Txn.k)).Nodup ∧ ∃ p, r = .tuple #[.pointer (some ⟨p, 0, none⟩), I 0] ∧ B = [coordO H' p ⟨node, life, 0, loadTs l []⟩])
open Classical in
noncomputable def codeOf (l : List Rec) : Int := if (l.map (·.Txn.k)).Nodup then 0 else 2
theorem codeOf_snoc {l : List Rec} {q : Rec} : codeOf (l ++ [q]) = if (mget q.Txn.k (loadTs l [])).isSome = true then 2 else codeOf l := by
  unfold codeOf
  rw [List.map_append, List.map_cons, List.map_nil]
  have h1 : (l.map (·.Txn.k) ++ [q.Txn.k]).Nodup ↔ (l.map (·.Txn.k)).Nodup ∧ q.Txn.k ∉ l.map (·.Txn.k) := by
    rw [List.nodup_append]
    constructor
    · rintro ⟨a, b, c⟩; exact ⟨a, fun h => c _ h _ (by simp) rfl⟩
    · rintro ⟨a, b⟩
      refine ⟨a, by simp, fun x hx y hy e => ?_⟩
      rw [List.mem_singleton] at hy
      subst hy e; exact b hx
  have h2 : (mget q.Txn.k (loadTs l [])).isSome = true ↔ q.Txn.k ∈ l.map (·.Txn.k) := by
    rw [loadTs_keys, List.mem_map]
    simp [mget]
  by_cases hin : (mget q.Txn.k (loadTs l [])).isSome = true
  · rw [if_pos hin, if_neg fun h => (h1.1 h).2 (h2.1 hin)]
  · rw [if_neg hin]
    by_cases hn : (l.map (·.Txn.k)).Nodup
    · rw [if_pos hn, if_pos (h1.2 ⟨hn, fun h => hin (h2.2 h)⟩)]
    · rw [if_neg hn, if_neg fun h => hn (h1.1 h).1]
theorem codeOf_cases (l : List Rec) : (codeOf l = 0 ∧ (l.map (·.Txn.k)).Nodup) ∨ (codeOf l = 2 ∧ ¬ (l.map (·.Txn.k)).Nodup) := by
  unfold codeOf
  split
  · next h => exact .inl ⟨rfl, h⟩
  · next h => exact .inr ⟨rfl, h⟩
theorem ce_put {zs : List CE} {k : K3} (hnd : (zs.map CE.k).Nodup) : ∃ zn : CE → List CE, ∀ e' : CE, e'.k = k → mset k (ptrC e'.p) (msC zs) = msC (zn e') ∧ mset k e'.x (tsC zs) = tsC (zn e') ∧ ∀ {H : Heap} {L : List HProp}, Sub (xA H e' :: bigL (xA H) zs :: L) (bigL (xA H) (zn e') :: L) := by
  rcases c_cases zs k with ⟨l1, ee, l2, rfl, hek⟩ | hno
  · refine ⟨fun e' => l1 ++ e' :: l2, fun e' he => ⟨?_, ?_, ?_⟩⟩
    · rw [← he]; exact kv_set (f := fun e => ptrC e.p) (e := ee) hnd (he.trans hek.symm)
    · rw [← he]; exact kv_set (f := CE.x) (e := ee) hnd (he.trans hek.symm)
    · intro H L
      refine Sub.trans (Sub.cons (bigL_out.trans (Sub.drop (Sub.refl _)))) ?_
      exact bigL_in
  · refine ⟨fun e' => zs ++ [e'], fun e' he => ⟨?_, ?_, ?_⟩⟩
    · rw [← he]; exact kv_new (f := fun e => ptrC e.p) fun x hx h => hno x hx (h.trans he)
    · rw [← he]; exact kv_new (f := CE.x) fun x hx h => hno x hx (h.trans he)
    · intro H L
      refine Sub.trans (show Sub _ (xA H e' :: bigL (xA H) (zs ++ []) :: _) by rw [List.append_nil]; exact Sub.refl _) ?_
      exact bigL_in
theorem xWorks_nil {H : Heap} {e : CE} {L : List HProp} (ho : e.x.op = true) (hw : e.x.works = []) : Sub L (xWorks H e (.map none) :: L) :=
  fun h hb => ⟨Heap.empty, h, .inl ⟨ho, hw, rfl, rfl⟩, hb, fun _ => .inl rfl, fun _ _ h => (by simp [Heap.empty] at h), .refl _⟩
set_option maxHeartbeats 8000000 in
set_option maxRecDepth 20000 in
theorem cload_spec {W0 : World} {H : Heap} {node life : Int} {v : Value} {l : List Rec} (hf1 : fits node) (hf2 : fits life) (h0 : SlB rRec 9 120 H v l) (hl : l.length ≤ 1000) :
    Ct Tryz.prog 41 #[I node, I life, v] W0 H [] (fun r H' B => CLoadQ node life l r H' B) := by
  refine Ct.go (vs := [I node, I life, v]) fun R => ?_
  obtain ⟨b0, c0, rfl, hc0, hd0⟩ := h0.1.shape
  refine walk ?_
  refine ops_call rfl rfl (cnew_spec (node := node) (life := life)) fun r1 H1 B hl1 ⟨p, er, eB, eH⟩ => ?_
  subst er eB eH
  refine walk ?_
  refine ex_loop (σ := Nat × Heap) (fun u => u.1 ≤ l.length ∧ H1.le u.2 ∧ ∀ q ∈ l.take u.1, OkR node life q) (fun u => [(0, I node), (1, I life), (6, .pointer none), (7, I 0), (8, .pointer (some ⟨p, 0, none⟩)), (9, I (codeOf (l.take u.1))), (15, .slice b0 l.length c0), (16, I l.length), (17, I u.1)]) (fun u => u.2)
    (fun u => coordO u.2 p ⟨node, life, 0, loadTs (l.take u.1) []⟩ :: R) (fun u => l.length - u.1) (0, H1) ⟨Nat.zero_le _, .refl _, fun q hq => (by simp at hq)⟩ (hf0 := ?_) fun ⟨j, HK⟩ ⟨hj0, hlK, hok⟩ K hL => ?_
  rotate_left
  · dsimp only
    rw [show codeOf (l.take 0) = 0 by unfold codeOf; simp]
    repeat (first | exact fsub_nil _ | refine fsub_cons rfl ?_)
  simp only at hj0 hlK hok
  dsimp only
  refine walk ?_
  refine ex_if rfl (fun hk => ?_) (fun hk => ?_)
  · have hk1 : j < l.length := by omega
    have ht := List.take_succ_eq_append_getElem hk1
    have hsl := h0.1.mono hlK
    have hsn := codeOf_snoc (l := l.take j) (q := l[j])
    have hls := loadTs_snoc (l := l.take j) (r := l[j]) (m := [])
    rw [← ht] at hsn hls
    refine walk ?_
    refine ops_ixp rfl rfl hsl hk1 fun b o cc hr hc => ?_
    have hm := List.getElem_mem hk1
    generalize l[j] = q at hr hc ht hm hsn hls
    obtain ⟨qk, ⟨qa, qb, qc⟩, ⟨qr, qt, qd⟩, qy, qp⟩ := q
    obtain ⟨w1, w2, w3, rfl, g1, g2, g3, g4, g5, g6, g7, g8⟩ := hc
    dsimp only at g1 g2 g3 g4 g5 g6 g7 g8
    obtain ⟨sb1, sc1, rfl, _, _⟩ := g6.1.shape
    obtain ⟨sb2, sc2, rfl, _, _⟩ := g7.1.shape
    obtain ⟨sb3, sc3, rfl, hs3, hs4⟩ := g8.1.shape
    change HRow HK b o [I qk, I qa, I qb, I qc, I qr, .slice sb1 qt.length sc1, .slice sb2 qd.length sc2, .bool qy, .slice sb3 qp.length sc3] at hr
    refine ops_ldNH rfl rfl hr rfl ?_
    refine ops_alloc rfl fun p11 _ => ?_
    by_cases c1 : qa = node
    rotate_left
    · have hbad : ¬ OkR node life ⟨qk, ⟨qa, qb, qc⟩, ⟨qr, qt, qd⟩, qy, qp⟩ := fun h => c1 h.node
      refine walk ?_
      refine fin0 ?_
      exact .inl ⟨⟨_, hm, hbad⟩, rfl, rfl⟩
    by_cases c2 : life ≤ qb
    · have hbad : ¬ OkR node life ⟨qk, ⟨qa, qb, qc⟩, ⟨qr, qt, qd⟩, qy, qp⟩ := fun h => (by have := h.life; simp only at this; omega)
      refine walk ?_
      refine fin0 ?_
      exact .inl ⟨⟨_, hm, hbad⟩, rfl, rfl⟩
    cases qp with
    | nil =>
      have hbad : ¬ OkR node life ⟨qk, ⟨qa, qb, qc⟩, ⟨qr, qt, qd⟩, qy, []⟩ := fun h => h.ne rfl
      rw [List.length_nil]
      refine walk ?_
      refine fin0 ?_
      exact .inl ⟨⟨_, hm, hbad⟩, rfl, rfl⟩
    | cons p0 ps =>
    have g8r : SlR rInt 1 HK (.slice sb3 (p0 :: ps).length sc3) (p0 :: ps) := g8.1
    have hlz : ¬ (((p0 :: ps).length : Nat) : Int) = 0 := by simp only [List.length_cons]; omega
    have hlt0 : 0 < (p0 :: ps).length := by simp
    by_cases c4 : p0 < 0
    · have hbad : ¬ OkR node life ⟨qk, ⟨qa, qb, qc⟩, ⟨qr, qt, qd⟩, qy, p0 :: ps⟩ := fun h => (by have := h.nn p0 (by simp); omega)
      refine walk ?_
      refine fin0 ?_
      exact .inl ⟨⟨_, hm, hbad⟩, rfl, rfl⟩
    refine walk ?_
    refine ops_call rfl rfl (rising_spec g8r) fun r2 H2 B hl2 ⟨⟨b2, er, hb2⟩, eB, eH⟩ => ?_
    subst er eB eH
    cases b2 with
    | false =>
      have hbad : ¬ OkR node life ⟨qk, ⟨qa, qb, qc⟩, ⟨qr, qt, qd⟩, qy, p0 :: ps⟩ := fun h => (by have := hb2.2 h.rise; cases this)
      refine walk ?_
      refine fin0 ?_
      exact .inl ⟨⟨_, hm, hbad⟩, rfl, rfl⟩
    | true =>
    obtain ⟨nts, hnts⟩ : ∃ t, t = loadTs (l.take j) [] := ⟨_, rfl⟩
    rw [← hnts] at hls hsn ⊢
    refine ops_open (A := coordO H2 p (⟨node, life, 0, nts⟩ : CS)) (σ := Nat × List CE) (B := fun a => [cRow p a.1 (⟨node, life, 0, nts⟩ : CS), cMap a.1 a.2, bigL (xA H2) a.2]) (p := fun a => CS.ts (⟨node, life, 0, nts⟩ : CS) = tsC a.2) (by repeat (first | exact Has.here | apply Has.there)) (fun h ⟨mb, zs, hb, hk⟩ => ⟨(mb, zs), hk, hb⟩) fun ⟨mb, zs⟩ hts => ?_
    dsimp only at hts ⊢
    refine walk ?_
    refine ops_lkO (RV := rVal) (val := fun x : Value => x) (z := .pointer none) rfl rfl ((by repeat (first | exact Has.here | apply Has.there))) ?_
    have hnz : nts = tsC zs := hts
    have hnd : (zs.map CE.k).Nodup := by
      have h1 := (loadTs_nd (l := l.take j) (m := []) (by simp)).1
      rw [← hnts, hnz, kv_keys] at h1
      exact h1
    obtain ⟨zn, hzn⟩ := ce_put (k := (qa, qb, qc)) hnd
    have hgood : OkR node life ⟨qk, ⟨qa, qb, qc⟩, ⟨qr, qt, qd⟩, qy, p0 :: ps⟩ := ⟨c1, by show qb < life; omega, by simp, ?good, hb2.1 rfl⟩
    case good =>
      intro x hx
      have hrs := hb2.1 rfl
      rw [List.pairwise_cons] at hrs
      rcases List.mem_cons.1 hx with rfl | hx
      · omega
      · have := hrs.1 x hx; omega
    change codeOf (l.take (j + 1)) = if (mget (qa, qb, qc) nts).isSome = true then 2 else codeOf (l.take j) at hsn
    rcases c_cases zs (qa, qb, qc) with ⟨l1, ee, l2, hzz, hek⟩ | hno
    · have hin : ee ∈ zs := by rw [hzz]; simp
      have hg1 : mget (qa, qb, qc) (msC zs) = some (ptrC ee.p) := by rw [← hek]; exact kv_in (f := fun e => ptrC e.p) hnd hin
      have hg2 : mget (qa, qb, qc) nts = some ee.x := by rw [hnz, ← hek]; exact kv_in (f := CE.x) hnd hin
      rw [hg2] at hsn
      rw [hg1, Option.getD_some]
      refine walk ?_
      refine ex_any 12 [row p11 48 [I qk, I qa, I qb, I qc, I qr, .slice sb1 qt.length sc1, .slice sb2 qd.length sc2, .bool qy, .slice sb3 (p0 :: ps).length sc3], row p 106 [I node, I life, I 0, .map (some mb)]] ?_
      refine stepY 0 ?_; refine stepY 1 ?_; refine stepY 2 ?_; refine stepY 3 ?_; refine stepY 4 ?_; refine stepY 5 ?_; refine stepY 6 ?_; refine stepY 7 ?_
      refine any_2 8 9 (at_call 8 rfl rfl (cloneI_spec (W0 := W0) (H := H2) (xs := p0 :: ps) (v := .slice sb3 (p0 :: ps).length sc3) g8) fun r8 H8 B hl8 ⟨eB, eH⟩ => ?g8) (at_w 9 rfl (op_makeMap (ek := iK) (R := rInt) (ag := false) fun hb _ => ⟨.refl _, subA, ?g9⟩))
      case g8 =>
        subst eB eH
        refine ⟨subA, ?_⟩
        refine any_w 9 rfl (op_makeMap (ek := iK) (R := rInt) (ag := false) fun hb _ => ⟨.refl _, subA, ?_⟩)
        refine any_shape r8 fun d8 e8 e _ _ _ => ?_
        subst e
        refine gny_bld 10 rfl rfl rfl ?_
        refine any_w 11 rfl (op_box rfl Go.Sx.CellsI.h fun ep _ => ⟨.refl _, subA, ?_⟩)
        refine any_rest rfl ?_
        refine ops_update (RV := rVal) (ag := false) (cs := [ptrC ep]) (u := ptrC ep) rfl rfl (show rVal Heap.empty [ptrC ep] (ptrC ep) from ⟨rfl, rfl⟩) (by repeat (first | exact Has.here | apply Has.there)) ?_
        refine ops_freeze (.slice d8 (p0 :: ps).length e8) fun H9 hl9 hsp => ?_
        obtain ⟨z1, z2, z3⟩ := hzn ⟨(qa, qb, qc), ep, .slice d8 (p0 :: ps).length e8, loadTX ⟨qk, ⟨qa, qb, qc⟩, ⟨qr, qt, qd⟩, qy, p0 :: ps⟩⟩ rfl
        dsimp only at z1 z2
        rw [z1]
        refine walk ?_
        refine out_next hL (j + 1, H9) ⟨by simp only; omega, hlK.trans (hl2.trans (hl8.trans hl9)), ?_⟩ (hs := ?_) (hf := ?_)
        · rw [ht]
          intro x hx
          rcases List.mem_append.1 hx with hx | hx
          · exact hok x hx
          · rw [List.mem_singleton] at hx
            subst hx
            exact hgood
        · dsimp only
          refine Sub.trans (B := xWorks H8 ⟨(qa, qb, qc), ep, .slice d8 (p0 :: ps).length e8, loadTX ⟨qk, ⟨qa, qb, qc⟩, ⟨qr, qt, qd⟩, qy, p0 :: ps⟩⟩ (.map none) :: xRow ⟨(qa, qb, qc), ep, .slice d8 (p0 :: ps).length e8, loadTX ⟨qk, ⟨qa, qb, qc⟩, ⟨qr, qt, qd⟩, qy, p0 :: ps⟩⟩ (.map none) hb :: xHeard H8 ⟨(qa, qb, qc), ep, .slice d8 (p0 :: ps).length e8, loadTX ⟨qk, ⟨qa, qb, qc⟩, ⟨qr, qt, qd⟩, qy, p0 :: ps⟩⟩ hb :: bigL (xA H8) zs :: row p 106 [I node, I life, I 0, .map (some mb)] :: cMap mb (zn ⟨(qa, qb, qc), ep, .slice d8 (p0 :: ps).length e8, loadTX ⟨qk, ⟨qa, qb, qc⟩, ⟨qr, qt, qd⟩, qy, p0 :: ps⟩⟩) :: R) ?_ ?_
          · refine Sub.trans ?_ (xWorks_nil rfl rfl)
            exact subA
          refine Sub.trans (B := xRow ⟨(qa, qb, qc), ep, .slice d8 (p0 :: ps).length e8, loadTX ⟨qk, ⟨qa, qb, qc⟩, ⟨qr, qt, qd⟩, qy, p0 :: ps⟩⟩ (.map none) hb :: xWorks H8 ⟨(qa, qb, qc), ep, .slice d8 (p0 :: ps).length e8, loadTX ⟨qk, ⟨qa, qb, qc⟩, ⟨qr, qt, qd⟩, qy, p0 :: ps⟩⟩ (.map none) :: xHeard H8 ⟨(qa, qb, qc), ep, .slice d8 (p0 :: ps).length e8, loadTX ⟨qk, ⟨qa, qb, qc⟩, ⟨qr, qt, qd⟩, qy, p0 :: ps⟩⟩ hb :: bigL (xA H8) zs :: row p 106 [I node, I life, I 0, .map (some mb)] :: cMap mb (zn ⟨(qa, qb, qc), ep, .slice d8 (p0 :: ps).length e8, loadTX ⟨qk, ⟨qa, qb, qc⟩, ⟨qr, qt, qd⟩, qy, p0 :: ps⟩⟩) :: R) subA ?_
          refine (xA_shut hsp hl9).trans ?_
          refine (Sub.cons (xL_up hl9)).trans ?_
          refine z3.trans ?_
          refine Sub.trans ?_ (coord_fold (H := H9) (mb := mb) (s := ⟨node, life, 0, loadTs (l.take (j + 1)) []⟩) (by rw [hls, hnz]; exact z2))
          exact subA
        · dsimp only
          rw [hsn]
          repeat (first | exact fsub_nil _ | refine fsub_cons rfl ?_)
      case g9 =>
        refine any_call 8 rfl rfl (cloneI_spec (W0 := W0) (H := H2) (xs := p0 :: ps) (v := .slice sb3 (p0 :: ps).length sc3) g8) fun r8 H8 B hl8 ⟨eB, eH⟩ => ?_
        subst eB eH
        refine ⟨subA, ?_⟩
        refine any_shape r8 fun d8 e8 e _ _ _ => ?_
        subst e
        refine gny_bld 10 rfl rfl rfl ?_
        refine any_w 11 rfl (op_box rfl Go.Sx.CellsI.h fun ep _ => ⟨.refl _, subA, ?_⟩)
        refine any_rest rfl ?_
        refine ops_update (RV := rVal) (ag := false) (cs := [ptrC ep]) (u := ptrC ep) rfl rfl (show rVal Heap.empty [ptrC ep] (ptrC ep) from ⟨rfl, rfl⟩) (by repeat (first | exact Has.here | apply Has.there)) ?_
        refine ops_freeze (.slice d8 (p0 :: ps).length e8) fun H9 hl9 hsp => ?_
        obtain ⟨z1, z2, z3⟩ := hzn ⟨(qa, qb, qc), ep, .slice d8 (p0 :: ps).length e8, loadTX ⟨qk, ⟨qa, qb, qc⟩, ⟨qr, qt, qd⟩, qy, p0 :: ps⟩⟩ rfl
        dsimp only at z1 z2
        rw [z1]
        refine walk ?_
        refine out_next hL (j + 1, H9) ⟨by simp only; omega, hlK.trans (hl2.trans (hl8.trans hl9)), ?_⟩ (hs := ?_) (hf := ?_)
        · rw [ht]
          intro x hx
          rcases List.mem_append.1 hx with hx | hx
          · exact hok x hx
          · rw [List.mem_singleton] at hx
            subst hx
            exact hgood
        · dsimp only
          refine Sub.trans (B := xWorks H8 ⟨(qa, qb, qc), ep, .slice d8 (p0 :: ps).length e8, loadTX ⟨qk, ⟨qa, qb, qc⟩, ⟨qr, qt, qd⟩, qy, p0 :: ps⟩⟩ (.map none) :: xRow ⟨(qa, qb, qc), ep, .slice d8 (p0 :: ps).length e8, loadTX ⟨qk, ⟨qa, qb, qc⟩, ⟨qr, qt, qd⟩, qy, p0 :: ps⟩⟩ (.map none) hb :: xHeard H8 ⟨(qa, qb, qc), ep, .slice d8 (p0 :: ps).length e8, loadTX ⟨qk, ⟨qa, qb, qc⟩, ⟨qr, qt, qd⟩, qy, p0 :: ps⟩⟩ hb :: bigL (xA H8) zs :: row p 106 [I node, I life, I 0, .map (some mb)] :: cMap mb (zn ⟨(qa, qb, qc), ep, .slice d8 (p0 :: ps).length e8, loadTX ⟨qk, ⟨qa, qb, qc⟩, ⟨qr, qt, qd⟩, qy, p0 :: ps⟩⟩) :: R) ?_ ?_
          · refine Sub.trans ?_ (xWorks_nil rfl rfl)
            exact subA
          refine Sub.trans (B := xRow ⟨(qa, qb, qc), ep, .slice d8 (p0 :: ps).length e8, loadTX ⟨qk, ⟨qa, qb, qc⟩, ⟨qr, qt, qd⟩, qy, p0 :: ps⟩⟩ (.map none) hb :: xWorks H8 ⟨(qa, qb, qc), ep, .slice d8 (p0 :: ps).length e8, loadTX ⟨qk, ⟨qa, qb, qc⟩, ⟨qr, qt, qd⟩, qy, p0 :: ps⟩⟩ (.map none) :: xHeard H8 ⟨(qa, qb, qc), ep, .slice d8 (p0 :: ps).length e8, loadTX ⟨qk, ⟨qa, qb, qc⟩, ⟨qr, qt, qd⟩, qy, p0 :: ps⟩⟩ hb :: bigL (xA H8) zs :: row p 106 [I node, I life, I 0, .map (some mb)] :: cMap mb (zn ⟨(qa, qb, qc), ep, .slice d8 (p0 :: ps).length e8, loadTX ⟨qk, ⟨qa, qb, qc⟩, ⟨qr, qt, qd⟩, qy, p0 :: ps⟩⟩) :: R) subA ?_
          refine (xA_shut hsp hl9).trans ?_
          refine (Sub.cons (xL_up hl9)).trans ?_
          refine z3.trans ?_
          refine Sub.trans ?_ (coord_fold (H := H9) (mb := mb) (s := ⟨node, life, 0, loadTs (l.take (j + 1)) []⟩) (by rw [hls, hnz]; exact z2))
          exact subA
        · dsimp only
          rw [hsn]
          repeat (first | exact fsub_nil _ | refine fsub_cons rfl ?_)
    · have hg2 : mget (qa, qb, qc) nts = none := by rw [hnz]; exact kv_out (f := CE.x) hno
      rw [hg2] at hsn
      rw [show mget (qa, qb, qc) (msC zs) = none from kv_out (f := fun e => ptrC e.p) hno, Option.getD_none]
      refine walk ?_
      refine ex_any 12 [row p11 48 [I qk, I qa, I qb, I qc, I qr, .slice sb1 qt.length sc1, .slice sb2 qd.length sc2, .bool qy, .slice sb3 (p0 :: ps).length sc3], row p 106 [I node, I life, I 0, .map (some mb)]] ?_
      refine stepY 0 ?_; refine stepY 1 ?_; refine stepY 2 ?_; refine stepY 3 ?_; refine stepY 4 ?_; refine stepY 5 ?_; refine stepY 6 ?_; refine stepY 7 ?_
      refine any_2 8 9 (at_call 8 rfl rfl (cloneI_spec (W0 := W0) (H := H2) (xs := p0 :: ps) (v := .slice sb3 (p0 :: ps).length sc3) g8) fun r8 H8 B hl8 ⟨eB, eH⟩ => ?g8) (at_w 9 rfl (op_makeMap (ek := iK) (R := rInt) (ag := false) fun hb _ => ⟨.refl _, subA, ?g9⟩))
      case g8 =>
        subst eB eH
        refine ⟨subA, ?_⟩
        refine any_w 9 rfl (op_makeMap (ek := iK) (R := rInt) (ag := false) fun hb _ => ⟨.refl _, subA, ?_⟩)
        refine any_shape r8 fun d8 e8 e _ _ _ => ?_
        subst e
        refine gny_bld 10 rfl rfl rfl ?_
        refine any_w 11 rfl (op_box rfl Go.Sx.CellsI.h fun ep _ => ⟨.refl _, subA, ?_⟩)
        refine any_rest rfl ?_
        refine ops_update (RV := rVal) (ag := false) (cs := [ptrC ep]) (u := ptrC ep) rfl rfl (show rVal Heap.empty [ptrC ep] (ptrC ep) from ⟨rfl, rfl⟩) (by repeat (first | exact Has.here | apply Has.there)) ?_
        refine ops_freeze (.slice d8 (p0 :: ps).length e8) fun H9 hl9 hsp => ?_
        obtain ⟨z1, z2, z3⟩ := hzn ⟨(qa, qb, qc), ep, .slice d8 (p0 :: ps).length e8, loadTX ⟨qk, ⟨qa, qb, qc⟩, ⟨qr, qt, qd⟩, qy, p0 :: ps⟩⟩ rfl
        dsimp only at z1 z2
        rw [z1]
        refine walk ?_
        refine out_next hL (j + 1, H9) ⟨by simp only; omega, hlK.trans (hl2.trans (hl8.trans hl9)), ?_⟩ (hs := ?_) (hf := ?_)
        · rw [ht]
          intro x hx
          rcases List.mem_append.1 hx with hx | hx
          · exact hok x hx
          · rw [List.mem_singleton] at hx
            subst hx
            exact hgood
        · dsimp only
          refine Sub.trans (B := xWorks H8 ⟨(qa, qb, qc), ep, .slice d8 (p0 :: ps).length e8, loadTX ⟨qk, ⟨qa, qb, qc⟩, ⟨qr, qt, qd⟩, qy, p0 :: ps⟩⟩ (.map none) :: xRow ⟨(qa, qb, qc), ep, .slice d8 (p0 :: ps).length e8, loadTX ⟨qk, ⟨qa, qb, qc⟩, ⟨qr, qt, qd⟩, qy, p0 :: ps⟩⟩ (.map none) hb :: xHeard H8 ⟨(qa, qb, qc), ep, .slice d8 (p0 :: ps).length e8, loadTX ⟨qk, ⟨qa, qb, qc⟩, ⟨qr, qt, qd⟩, qy, p0 :: ps⟩⟩ hb :: bigL (xA H8) zs :: row p 106 [I node, I life, I 0, .map (some mb)] :: cMap mb (zn ⟨(qa, qb, qc), ep, .slice d8 (p0 :: ps).length e8, loadTX ⟨qk, ⟨qa, qb, qc⟩, ⟨qr, qt, qd⟩, qy, p0 :: ps⟩⟩) :: R) ?_ ?_
          · refine Sub.trans ?_ (xWorks_nil rfl rfl)
            exact subA
          refine Sub.trans (B := xRow ⟨(qa, qb, qc), ep, .slice d8 (p0 :: ps).length e8, loadTX ⟨qk, ⟨qa, qb, qc⟩, ⟨qr, qt, qd⟩, qy, p0 :: ps⟩⟩ (.map none) hb :: xWorks H8 ⟨(qa, qb, qc), ep, .slice d8 (p0 :: ps).length e8, loadTX ⟨qk, ⟨qa, qb, qc⟩, ⟨qr, qt, qd⟩, qy, p0 :: ps⟩⟩ (.map none) :: xHeard H8 ⟨(qa, qb, qc), ep, .slice d8 (p0 :: ps).length e8, loadTX ⟨qk, ⟨qa, qb, qc⟩, ⟨qr, qt, qd⟩, qy, p0 :: ps⟩⟩ hb :: bigL (xA H8) zs :: row p 106 [I node, I life, I 0, .map (some mb)] :: cMap mb (zn ⟨(qa, qb, qc), ep, .slice d8 (p0 :: ps).length e8, loadTX ⟨qk, ⟨qa, qb, qc⟩, ⟨qr, qt, qd⟩, qy, p0 :: ps⟩⟩) :: R) subA ?_
          refine (xA_shut hsp hl9).trans ?_
          refine (Sub.cons (xL_up hl9)).trans ?_
          refine z3.trans ?_
          refine Sub.trans ?_ (coord_fold (H := H9) (mb := mb) (s := ⟨node, life, 0, loadTs (l.take (j + 1)) []⟩) (by rw [hls, hnz]; exact z2))
          exact subA
        · dsimp only
          rw [hsn]
          repeat (first | exact fsub_nil _ | refine fsub_cons rfl ?_)
      case g9 =>
        refine any_call 8 rfl rfl (cloneI_spec (W0 := W0) (H := H2) (xs := p0 :: ps) (v := .slice sb3 (p0 :: ps).length sc3) g8) fun r8 H8 B hl8 ⟨eB, eH⟩ => ?_
        subst eB eH
        refine ⟨subA, ?_⟩
        refine any_shape r8 fun d8 e8 e _ _ _ => ?_
        subst e
        refine gny_bld 10 rfl rfl rfl ?_
        refine any_w 11 rfl (op_box rfl Go.Sx.CellsI.h fun ep _ => ⟨.refl _, subA, ?_⟩)
        refine any_rest rfl ?_
        refine ops_update (RV := rVal) (ag := false) (cs := [ptrC ep]) (u := ptrC ep) rfl rfl (show rVal Heap.empty [ptrC ep] (ptrC ep) from ⟨rfl, rfl⟩) (by repeat (first | exact Has.here | apply Has.there)) ?_
        refine ops_freeze (.slice d8 (p0 :: ps).length e8) fun H9 hl9 hsp => ?_
        obtain ⟨z1, z2, z3⟩ := hzn ⟨(qa, qb, qc), ep, .slice d8 (p0 :: ps).length e8, loadTX ⟨qk, ⟨qa, qb, qc⟩, ⟨qr, qt, qd⟩, qy, p0 :: ps⟩⟩ rfl
        dsimp only at z1 z2
        rw [z1]
        refine walk ?_
        refine out_next hL (j + 1, H9) ⟨by simp only; omega, hlK.trans (hl2.trans (hl8.trans hl9)), ?_⟩ (hs := ?_) (hf := ?_)
        · rw [ht]
          intro x hx
          rcases List.mem_append.1 hx with hx | hx
          · exact hok x hx
          · rw [List.mem_singleton] at hx
            subst hx
            exact hgood
        · dsimp only
          refine Sub.trans (B := xWorks H8 ⟨(qa, qb, qc), ep, .slice d8 (p0 :: ps).length e8, loadTX ⟨qk, ⟨qa, qb, qc⟩, ⟨qr, qt, qd⟩, qy, p0 :: ps⟩⟩ (.map none) :: xRow ⟨(qa, qb, qc), ep, .slice d8 (p0 :: ps).length e8, loadTX ⟨qk, ⟨qa, qb, qc⟩, ⟨qr, qt, qd⟩, qy, p0 :: ps⟩⟩ (.map none) hb :: xHeard H8 ⟨(qa, qb, qc), ep, .slice d8 (p0 :: ps).length e8, loadTX ⟨qk, ⟨qa, qb, qc⟩, ⟨qr, qt, qd⟩, qy, p0 :: ps⟩⟩ hb :: bigL (xA H8) zs :: row p 106 [I node, I life, I 0, .map (some mb)] :: cMap mb (zn ⟨(qa, qb, qc), ep, .slice d8 (p0 :: ps).length e8, loadTX ⟨qk, ⟨qa, qb, qc⟩, ⟨qr, qt, qd⟩, qy, p0 :: ps⟩⟩) :: R) ?_ ?_
          · refine Sub.trans ?_ (xWorks_nil rfl rfl)
            exact subA
          refine Sub.trans (B := xRow ⟨(qa, qb, qc), ep, .slice d8 (p0 :: ps).length e8, loadTX ⟨qk, ⟨qa, qb, qc⟩, ⟨qr, qt, qd⟩, qy, p0 :: ps⟩⟩ (.map none) hb :: xWorks H8 ⟨(qa, qb, qc), ep, .slice d8 (p0 :: ps).length e8, loadTX ⟨qk, ⟨qa, qb, qc⟩, ⟨qr, qt, qd⟩, qy, p0 :: ps⟩⟩ (.map none) :: xHeard H8 ⟨(qa, qb, qc), ep, .slice d8 (p0 :: ps).length e8, loadTX ⟨qk, ⟨qa, qb, qc⟩, ⟨qr, qt, qd⟩, qy, p0 :: ps⟩⟩ hb :: bigL (xA H8) zs :: row p 106 [I node, I life, I 0, .map (some mb)] :: cMap mb (zn ⟨(qa, qb, qc), ep, .slice d8 (p0 :: ps).length e8, loadTX ⟨qk, ⟨qa, qb, qc⟩, ⟨qr, qt, qd⟩, qy, p0 :: ps⟩⟩) :: R) subA ?_
          refine (xA_shut hsp hl9).trans ?_
          refine (Sub.cons (xL_up hl9)).trans ?_
          refine z3.trans ?_
          refine Sub.trans ?_ (coord_fold (H := H9) (mb := mb) (s := ⟨node, life, 0, loadTs (l.take (j + 1)) []⟩) (by rw [hls, hnz]; exact z2))
          exact subA
        · dsimp only
          rw [hsn]
          repeat (first | exact fsub_nil _ | refine fsub_cons rfl ?_)
  · clear hL
    obtain rfl : j = l.length := by omega
    rw [List.take_length] at hok ⊢
    rcases codeOf_cases l with ⟨hc, hn⟩ | ⟨hc, hn⟩
    · rw [hc]
      refine walk ?_
      refine finB [coordO HK p ⟨node, life, 0, loadTs l []⟩] ?_
      exact .inr (.inr ⟨hok, hn, p, rfl, rfl⟩)
    · rw [hc]
      refine walk ?_
      refine fin0 ?_
      exact .inr (.inl ⟨hok, hn, rfl, rfl⟩)
end Go.Proofs.YtpphdbnifbjfmaaGreatDoor
