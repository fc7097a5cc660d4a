/- The reference's coordinator: Load. -/
import Derived.Test.YthoafjeampbkeaaCTU
set_option linter.unusedVariables false
set_option linter.unusedSimpArgs false
namespace Go.Proofs.Ythoafjeampbkeaa
open Go Go.Sx Go.Proofs
section
variable {P : Program} {n : Nat} {W0 : World} {F : Slots} {H : Heap} {L : List HProp} {K : Value → Heap → List HProp → Prop} {ty : TypeId} {pos : String} {aft : Array Edge} {dst : Option Tmp} {g : Option (Nat × Bool)} {x y : Operand} {t e : TypeId} {sz wd : Nat} {z : Value} {kl kc : IntKind}
/-- make([]T, m) as an owned slice of m zeros, one operation -/
theorem op_mkT {α : Type} (R : Sx.Rd α) (z0 : α) (m : Nat) [hT : TSl P t e] [hI : TIn P e sz wd z] [hR : RdOk R sz] (hv : opvs F [x, y] = some [.int kl m, .int kc m]) (hz : R H z.cells.toList z0) (hb : m * wd ≤ cap47) (hm : m ≤ cap47)
    (h : ∀ b, K (.slice (some ⟨b, 0, none⟩) m m) H (ownS R sz wd e H (.slice (some ⟨b, 0, none⟩) m m) (List.replicate m z0) :: L)) : OpW P n W0 ⟨dst, .makeSlice t x y, ty, pos, aft, g⟩ F H L K := by
  have hsz : z.cells.size = sz := by
    have := hR.len hz; simpa using this
  refine .sub (op_mkN (hT := hT) (hI := hI) (m := m) (cs := (List.replicate m z.cells.toList).flatten) (opvs2 hv).1 (opvs2 hv).2 (by rw [← hsz]; exact made_len) hb hm fun b _ => ⟨_, ?_, h b⟩)
  have hlen : (List.replicate m z.cells.toList).flatten.length = m * sz := by simp [List.length_flatten, hsz]
  have hs := own_shut (T := e) (sz := sz) (m := m) (b := b) (cap := m) (xs := (List.replicate m z.cells.toList).flatten) (sp := []) (R := L) hlen (Nat.le_refl _) (by simp only [cap47] at hm; omega) (by simpa using hlen)
  rw [List.append_nil] at hs
  refine hs.trans ?_
  have hm2 := ownS_mk (sz := sz) (T := e) (w := wd) (s := .slice (some ⟨b, 0, none⟩) m m) (L := L) (RL.rep hz m) (by simpa using hb)
  rw [List.length_replicate] at hm2
  exact hm2
end
/-- what the reference's Load answers -/
def RLoadQ (node life : Int) (l : List Rec) (r : Value) (H' : Heap) (B : List HProp) : Prop :=
  B = [] ∧ ((∃ q ∈ l, ¬ OkR node life q) ∧ r = .tuple #[.agg #[I 0, I 0, I 0, nilS], I 1] ∨
  ((∀ q ∈ l, OkR node life q) ∧ ¬ (l.map (·.Txn.k)).Nodup ∧ r = .tuple #[.agg #[I 0, I 0, I 0, nilS], I 2]) ∨
  ((∀ q ∈ l, OkR node life q) ∧ (l.map (·.Txn.k)).Nodup ∧ ∃ c, r = .tuple #[.agg c.toArray, I 0] ∧ rCoord H' c ⟨node, life, 0, loadRs l⟩))
/-- what its first conditions ask -/
def OkA (node life : Int) (q : Rec) : Prop := (q.Txn.Node = node ∧ q.Txn.Life < life) ∧ 0 < q.Parts.length
instance {node life : Int} {q : Rec} : Decidable (OkA node life q) := by unfold OkA; infer_instance
/-- .. and of so many parts -/
def OkB (ps : List Int) : Prop := (∀ p ∈ ps, 0 ≤ p) ∧ ps.Pairwise (· < ·)
theorem okR_iff {node life : Int} {q : Rec} : OkR node life q ↔ OkA node life q ∧ OkB q.Parts := by
  constructor
  · intro h
    exact ⟨⟨⟨h.node, h.life⟩, List.length_pos_iff.2 h.ne⟩, h.nn, h.rise⟩
  · rintro ⟨⟨⟨a, b⟩, c⟩, d, e⟩
    exact ⟨a, b, List.length_pos_iff.1 c, d, e⟩
theorem okB_snoc {ps : List Int} {i : Nat} (hi : i < ps.length) : OkB (ps.take (i + 1)) ↔ OkB (ps.take i) ∧ 0 ≤ ps[i] ∧ (i = 0 ∨ ∃ h : 0 < i, ps[i - 1]'(by omega) < ps[i]) := by
  unfold OkB
  rw [List.take_succ_eq_append_getElem hi, List.pairwise_append]
  constructor
  · rintro ⟨h1, h2, _, h3⟩
    refine ⟨⟨fun p hp => h1 p (List.mem_append_left _ hp), h2⟩, h1 _ (List.mem_append_right _ (by simp)), ?_⟩
    by_cases h0 : i = 0
    · exact .inl h0
    · refine .inr ⟨by omega, h3 _ ?_ _ (by simp)⟩
      rw [List.mem_take_iff_getElem]
      exact ⟨i - 1, by omega, rfl⟩
  · rintro ⟨⟨h1, h2⟩, h3, h4⟩
    refine ⟨fun p hp => ?_, h2, by simp, fun a ha b hb => ?_⟩
    · rcases List.mem_append.1 hp with hp | hp
      · exact h1 p hp
      · rw [List.mem_singleton] at hp; subst hp; exact h3
    · rw [List.mem_singleton] at hb
      subst hb
      obtain ⟨j, hj, rfl⟩ := List.mem_take_iff_getElem.1 ha
      have hj' : j < i ∧ j < ps.length := by omega
      rcases h4 with h4 | ⟨h0, h4⟩
      · omega
      · by_cases e : j = i - 1
        · subst e; exact h4
        · have h5 := (List.pairwise_iff_getElem.1 h2) j (i - 1) (by simp; omega) (by simp; omega) (by omega)
          simp only [List.getElem_take] at h5
          omega
theorem loadRs_in {node life : Int} {l : List Rec} {x : Txn} : (∃ t ∈ loadRs l, t.X = x) ↔ (mget x.k (loadTs l [])).isSome = true :=
  ((crel_load (node := node) (life := life) (l := l)).isT (x := x)).symm
theorem loadRs_len {l : List Rec} : (loadRs l).length ≤ l.length := by
  have key : ∀ (l : List Rec) (a : List RTx), (l.foldl (fun a r => putR (loadRT r) a) a).length ≤ a.length + l.length := by
    intro l
    induction l with
    | nil => intro a; simp
    | cons r l ih =>
      intro a
      rw [List.foldl_cons]
      have h1 := ih (putR (loadRT r) a)
      have h2 := putR_len (t := loadRT r) (l := a)
      simp only [List.length_cons]
      omega
  simpa [loadRs] using key l []
set_option maxHeartbeats 8000000 in
set_option maxRecDepth 20000 in
theorem rLoadC_spec {W0 : World} {H : Heap} {node life : Int} {v : Value} {l : List Rec} (hf1 : fits node) (hf2 : fits life) (h0 : SlB rRec 9 120 H v l) (hl : l.length ≤ 1000) :
    Ct Try.prog 22 #[I node, I life, v] W0 H [] (fun r H' B => RLoadQ node life l r H' B) := by
  refine Ct.go (vs := [I node, I life, v]) fun R => ?_
  obtain ⟨b0, c0, rfl, hc0, hd0⟩ := h0.1.shape
  refine walk ?_
  refine ops_alloc rfl fun p6 _ => ?_
  refine walk ?_
  refine ops_alloc rfl fun p8 _ => ?_
  refine walk ?_
  refine ex_loop (σ := Nat × (Option Addr × Nat) × Heap) (fun u => u.1 ≤ l.length ∧ H.le u.2.2 ∧ (∀ q ∈ l.take u.1, OkR node life q) ∧ SlB rC16 8 112 u.2.2 (.slice u.2.1.1 (loadRs (l.take u.1)).length u.2.1.2) (loadRs (l.take u.1))) (fun u => [(0, I node), (1, I life), (2, .slice b0 l.length c0), (6, .pointer (some ⟨p6, 0, none⟩)), (7, I 0), (8, .pointer (some ⟨p8, 0, none⟩)), (9, I (codeOf (l.take u.1))), (10, I u.1)]) (fun u => u.2.2)
    (fun u => row p8 35 [I node, I life, I 0, .slice u.2.1.1 (loadRs (l.take u.1)).length u.2.1.2] :: row p6 35 [I 0, I 0, I 0, nilS] :: R) (fun u => l.length - u.1) (0, (none, 0), H) ⟨Nat.zero_le _, .refl _, fun q hq => (by simp at hq), SlB.nil⟩ (hf0 := ?_) fun ⟨j, ⟨d, e⟩, HK⟩ ⟨hj0, hlK, hok, hts⟩ K hL => ?_
  rotate_left
  · dsimp only
    rw [show codeOf (l.take 0) = 0 by unfold codeOf; simp]
    repeat (first | exact fsub_nil _ | refine fsub_cons rfl ?_)
  simp only at hj0 hlK hok hts
  dsimp only
  refine walk ?_
  refine ex_if rfl (fun hk => ?_) (fun hk => ?_)
  · have hk1 : j < l.length := by omega
    have ht := List.take_succ_eq_append_getElem hk1
    have hsl := h0.1.mono hlK
    have hsn := codeOf_snoc (l := l.take j) (q := l[j])
    have hls := loadRs_snoc (l := l.take j) (r := l[j])
    rw [← ht] at hsn hls
    refine walk ?_
    refine ops_ixp rfl rfl hsl hk1 fun b o cc hr hc => ?_
    have hm := List.getElem_mem hk1
    generalize l[j] = q at hr hc ht hm hsn hls
    obtain ⟨qk, ⟨qa, qb, qc⟩, ⟨qr, qt, qd⟩, qy, qp⟩ := q
    obtain ⟨w1, w2, w3, rfl, g1, g2, g3, g4, g5, g6, g7, g8⟩ := hc
    dsimp only at g1 g2 g3 g4 g5 g6 g7 g8
    obtain ⟨sb1, sc1, rfl, _, _⟩ := g6.1.shape
    obtain ⟨sb2, sc2, rfl, _, _⟩ := g7.1.shape
    obtain ⟨sb3, sc3, rfl, hs3, hs4⟩ := g8.1.shape
    change HRow HK b o [I qk, I qa, I qb, I qc, I qr, .slice sb1 qt.length sc1, .slice sb2 qd.length sc2, .bool qy, .slice sb3 qp.length sc3] at hr
    refine ops_ldNH rfl rfl hr rfl ?_
    refine ops_alloc rfl fun p11 _ => ?_
    refine walkG ?_
    refine ex_loop (σ := Nat × Bool) (fun u => u.1 ≤ qp.length ∧ (u.2 = true ↔ ((qa = node ∧ qb < life) ∧ (0 : Int) < (qp.length : Int)) ∧ OkB (qp.take u.1))) (fun u => [(0, I node), (1, I life), (2, .slice b0 l.length c0), (6, .pointer (some ⟨p6, 0, none⟩)), (7, I 0), (8, .pointer (some ⟨p8, 0, none⟩)), (9, I (codeOf (l.take j))), (10, I j), (11, .pointer (some ⟨p11, 0, none⟩)), (12, .bool u.2), (13, I u.1)]) (fun _ => HK)
      (fun _ => row p11 63 [I qk, I qa, I qb, I qc, I qr, .slice sb1 qt.length sc1, .slice sb2 qd.length sc2, .bool qy, .slice sb3 qp.length sc3] :: row p8 35 [I node, I life, I 0, .slice d (loadRs (l.take j)).length e] :: row p6 35 [I 0, I 0, I 0, nilS] :: R) (fun u => qp.length - u.1) (0, decide ((qa = node ∧ qb < life) ∧ (0 : Int) < (qp.length : Int))) ⟨Nat.zero_le _, by simp [OkB]⟩ fun ⟨i, ok⟩ ⟨hi0, hio⟩ K2 hL2 => ?_
    simp only at hi0 hio
    dsimp only
    refine walk ?_
    refine ex_if rfl (fun hi => ?_) (fun hi => ?_)
    · have hi1 : i < qp.length := by omega
      have hsb := okB_snoc hi1
      have g8r : SlR rInt 1 HK (.slice sb3 qp.length sc3) qp := g8.1
      cases ok with
      | false =>
        refine walk ?_
        refine out_next hL2 (i + 1, false) ⟨by simp only; omega, ⟨fun h => (by cases h), fun h => ?_⟩⟩
        exact hio.2 ⟨h.1, (hsb.1 h.2).1⟩
      | true =>
        have hA := hio.1 rfl
        by_cases c1 : 0 ≤ qp[i]
        rotate_left
        · refine walk ?_
          refine out_next hL2 (i + 1, false) ⟨by simp only; omega, ⟨fun h => (by cases h), fun h => ?_⟩⟩
          exact absurd (hsb.1 h.2).2.1 c1
        by_cases c2 : i = 0
        · subst c2
          refine walk ?_
          exact out_next hL2 (0 + 1, true) ⟨by simp only; omega, ⟨fun _ => ⟨hA.1, hsb.2 ⟨hA.2, c1, .inl rfl⟩⟩, fun _ => rfl⟩⟩
        have hci : ((i : Int) - 1) = ((i - 1 : Nat) : Int) := by omega
        have hi2 : i - 1 < qp.length := by omega
        have c2i : ¬ (i : Int) = 0 := by omega
        by_cases c3 : qp[i - 1] < qp[i]
        · refine walk ?_
          rw [hci]
          refine walk ?_
          exact out_next hL2 (i + 1, true) ⟨by simp only; omega, ⟨fun _ => ⟨hA.1, hsb.2 ⟨hA.2, c1, .inr ⟨by omega, c3⟩⟩⟩, fun _ => rfl⟩⟩
        · refine walk ?_
          rw [hci]
          refine walk ?_
          refine out_next hL2 (i + 1, false) ⟨by simp only; omega, ⟨fun h => (by cases h), fun h => ?_⟩⟩
          rcases (hsb.1 h.2).2.2 with h | ⟨_, h⟩
          · exact absurd h c2
          · exact absurd h c3
    clear hL2
    obtain rfl : i = qp.length := by omega
    rw [List.take_length] at hio
    cases ok with
    | false =>
      have hbad : ¬ OkR node life ⟨qk, ⟨qa, qb, qc⟩, ⟨qr, qt, qd⟩, qy, qp⟩ := fun h => (by
        have h2 := okR_iff.1 h
        have := hio.2 ⟨⟨h2.1.1, by have := h2.1.2; simp only at this; omega⟩, h2.2⟩
        cases this)
      refine walk ?_
      refine fin0 ?_
      exact ⟨rfl, .inl ⟨⟨_, hm, hbad⟩, rfl⟩⟩
    | true =>
    have hA := hio.1 rfl
    have hgood : OkR node life ⟨qk, ⟨qa, qb, qc⟩, ⟨qr, qt, qd⟩, qy, qp⟩ := okR_iff.2 ⟨⟨hA.1.1, by have := hA.1.2; simp only; omega⟩, hA.2⟩
    refine walk ?_
    refine ops_call rfl rfl (rAtC_spec (x := ⟨qa, qb, qc⟩) (m := ⟨node, life, 0, loadRs (l.take j)⟩) (c := [I node, I life, I 0, .slice d (loadRs (l.take j)).length e]) ⟨_, rfl, hf1, hf2, fits0, hts⟩) fun r7 H7 B hl7 ⟨hr7, eB, eH⟩ => ?_
    subst eB eH
    have hin := loadRs_in (node := node) (life := life) (l := l.take j) (x := ⟨qa, qb, qc⟩)
    have hgs := g8.2
    change codeOf (l.take (j + 1)) = if (mget (⟨qa, qb, qc⟩ : Txn).k (loadTs (l.take j) [])).isSome = true then 2 else codeOf (l.take j) at hsn
    rcases hr7 with ⟨rfl, hno⟩ | ⟨t, ht1, rfl, hx⟩
    · rw [if_neg (fun h => (let ⟨t, a, b⟩ := hin.2 h; hno t a b))] at hsn
      refine walk ?_
      refine ex_any 12 [row p11 63 [I qk, I qa, I qb, I qc, I qr, .slice sb1 qt.length sc1, .slice sb2 qd.length sc2, .bool qy, .slice sb3 qp.length sc3], row p8 35 [I node, I life, I 0, .slice d (loadRs (l.take j)).length e]] ?_
      refine stepY 0 ?_; refine stepY 1 ?_; refine stepY 2 ?_; refine stepY 3 ?_; refine stepY 4 ?_; refine stepY 5 ?_; refine stepY 6 ?_; refine stepY 7 ?_; refine stepY 8 ?_
      refine any_w 9 rfl (op_mkT rBool false qp.length rfl (by exact rfl) (by simp only [cap47] at hgs ⊢; omega) (by simp only [cap47] at hgs ⊢; omega) fun b9 => ⟨.refl _, (by (repeat (first | exact Sub.refl _ | exact Sub.nil _ | (apply sub_pick; (repeat (first | exact Has.here | apply Has.there)); skip) | apply Sub.drop))), ?_⟩)
      refine any_freeze (.slice (some ⟨b9, 0, none⟩) qp.length qp.length) fun H9 hl9 hsh => ?_
      refine gny_bld 10 rfl rfl rfl ?_
      have hrt : rC16 H9 [I qa, I qb, I qc, .bool true, I 0, .slice sb3 qp.length sc3, nilS, .slice (some ⟨b9, 0, none⟩) qp.length qp.length] (loadRT ⟨qk, ⟨qa, qb, qc⟩, ⟨qr, qt, qd⟩, qy, qp⟩) := ⟨_, _, _, rfl, g2, g3, g4, fits0, g8.mono hl9, SlB.nil, by unfold loadRT; simp only [List.length_replicate]; exact hsh⟩
      refine gny_call 11 rfl rfl rfl (rPutC_spec (W0 := W0) (H := H9) (t := loadRT ⟨qk, ⟨qa, qb, qc⟩, ⟨qr, qt, qd⟩, qy, qp⟩) (l := loadRs (l.take j)) (hts.mono hl9) hrt (by have := loadRs_len (l := l.take j); rw [List.length_take] at this; omega)) fun r11 H11 B hl11 ⟨eB, eH⟩ => ?_
      subst eB eH
      refine ⟨(by (repeat (first | exact Sub.refl _ | exact Sub.nil _ | (apply sub_pick; (repeat (first | exact Has.here | apply Has.there)); skip) | apply Sub.drop))), ?_⟩
      rw [← hls]
      refine any_freeze r11 fun H12 hl12 hsp => ?_
      obtain ⟨bp, cp, rfl, _, _⟩ := hsp.1.shape
      refine any_rest rfl ?_
      refine walk ?_
      refine out_next hL (j + 1, (bp, cp), H12) ⟨by simp only; omega, hlK.trans (hl9.trans (hl11.trans hl12)), ?_, hsp⟩ (hf := ?_)
      · rw [ht]
        intro x hx
        rcases List.mem_append.1 hx with hx | hx
        · exact hok x hx
        · rw [List.mem_singleton] at hx
          subst hx
          exact hgood
      · dsimp only
        rw [hsn]
        repeat (first | exact fsub_nil _ | refine fsub_cons rfl ?_)
    · rw [if_pos (hin.1 ⟨_, List.getElem_mem ht1, hx⟩)] at hsn
      refine walk ?_
      refine ex_any 12 [row p11 63 [I qk, I qa, I qb, I qc, I qr, .slice sb1 qt.length sc1, .slice sb2 qd.length sc2, .bool qy, .slice sb3 qp.length sc3], row p8 35 [I node, I life, I 0, .slice d (loadRs (l.take j)).length e]] ?_
      refine stepY 0 ?_; refine stepY 1 ?_; refine stepY 2 ?_; refine stepY 3 ?_; refine stepY 4 ?_; refine stepY 5 ?_; refine stepY 6 ?_; refine stepY 7 ?_; refine stepY 8 ?_
      refine any_w 9 rfl (op_mkT rBool false qp.length rfl (by exact rfl) (by simp only [cap47] at hgs ⊢; omega) (by simp only [cap47] at hgs ⊢; omega) fun b9 => ⟨.refl _, (by (repeat (first | exact Sub.refl _ | exact Sub.nil _ | (apply sub_pick; (repeat (first | exact Has.here | apply Has.there)); skip) | apply Sub.drop))), ?_⟩)
      refine any_freeze (.slice (some ⟨b9, 0, none⟩) qp.length qp.length) fun H9 hl9 hsh => ?_
      refine gny_bld 10 rfl rfl rfl ?_
      have hrt : rC16 H9 [I qa, I qb, I qc, .bool true, I 0, .slice sb3 qp.length sc3, nilS, .slice (some ⟨b9, 0, none⟩) qp.length qp.length] (loadRT ⟨qk, ⟨qa, qb, qc⟩, ⟨qr, qt, qd⟩, qy, qp⟩) := ⟨_, _, _, rfl, g2, g3, g4, fits0, g8.mono hl9, SlB.nil, by unfold loadRT; simp only [List.length_replicate]; exact hsh⟩
      refine gny_call 11 rfl rfl rfl (rPutC_spec (W0 := W0) (H := H9) (t := loadRT ⟨qk, ⟨qa, qb, qc⟩, ⟨qr, qt, qd⟩, qy, qp⟩) (l := loadRs (l.take j)) (hts.mono hl9) hrt (by have := loadRs_len (l := l.take j); rw [List.length_take] at this; omega)) fun r11 H11 B hl11 ⟨eB, eH⟩ => ?_
      subst eB eH
      refine ⟨(by (repeat (first | exact Sub.refl _ | exact Sub.nil _ | (apply sub_pick; (repeat (first | exact Has.here | apply Has.there)); skip) | apply Sub.drop))), ?_⟩
      rw [← hls]
      refine any_freeze r11 fun H12 hl12 hsp => ?_
      obtain ⟨bp, cp, rfl, _, _⟩ := hsp.1.shape
      refine any_rest rfl ?_
      refine walk ?_
      refine out_next hL (j + 1, (bp, cp), H12) ⟨by simp only; omega, hlK.trans (hl9.trans (hl11.trans hl12)), ?_, hsp⟩ (hf := ?_)
      · rw [ht]
        intro x hx
        rcases List.mem_append.1 hx with hx | hx
        · exact hok x hx
        · rw [List.mem_singleton] at hx
          subst hx
          exact hgood
      · dsimp only
        rw [hsn]
        repeat (first | exact fsub_nil _ | refine fsub_cons rfl ?_)
  · clear hL
    obtain rfl : j = l.length := by omega
    rw [List.take_length] at hok hts ⊢
    rcases codeOf_cases l with ⟨hc, hn⟩ | ⟨hc, hn⟩
    · rw [hc]
      refine walk ?_
      refine fin0 ?_
      exact ⟨rfl, .inr (.inr ⟨hok, hn, _, rfl, _, rfl, hf1, hf2, fits0, hts⟩)⟩
    · rw [hc]
      refine walk ?_
      refine fin0 ?_
      exact ⟨rfl, .inr (.inl ⟨hok, hn, rfl⟩)⟩
end Go.Proofs.Ythoafjeampbkeaa
