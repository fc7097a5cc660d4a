/- The law MergeMerges, walked. -/
import Derived.Test.YtjkiioicjmaeoaaJMO
import Derived.Test.YtjkiioicjmaeoaaJYL
set_option linter.unusedVariables false
set_option linter.unusedSimpArgs false
namespace Go.Proofs.Ytjkiioicjmaeoaa
open Go Go.Sx Go.X Go.Proofs
theorem row_ownS {α : Type} {R : Rd α} {sz w T b : Nat} {H : Heap} {L : List HProp} {cs : List Value} {xs : List α} [hR : RdOk R sz] (hr : RL R H cs xs) (h1 : xs.length * w ≤ cap47) (h2 : xs.length ≤ 9223372036854775807) :
    Sub (row b T cs :: L) (ownS R sz w T H (.slice (some ⟨b, 0, none⟩) xs.length xs.length) xs :: L) := by
  have hs := own_shut (T := T) (sz := sz) (m := xs.length) (b := b) (cap := xs.length) (xs := cs) (sp := []) (R := L) (RL.len hr) (Nat.le_refl _) h2 (by simp [RL.len hr])
  rw [List.append_nil] at hs
  exact hs.trans (ownS_mk hr h1)
theorem isM_dist {xs r : List Entry} (hd : xs.Pairwise fun a b => ¬ Eqv a b) (hp : PW r) (hm : ∀ x, x ∈ r ↔ x ∈ xs) : IsM xs r := by
  refine ⟨hp, fun x => (hm x).trans ⟨fun hx => ?_, fun h => (fst_some h).2⟩⟩
  clear hm hp
  induction xs with
  | nil => cases hx
  | cons a t ih =>
    unfold fst?
    rw [List.find?_cons]
    rcases List.mem_cons.1 hx with rfl | hx
    · simp [Eqv.refl]
    · have : ¬ Eqv a x := List.rel_of_pairwise_cons hd hx
      simp only [this, decide_false]
      exact ih (List.Pairwise.of_cons hd) hx
abbrev ka : ByteArray := ⟨#[97]⟩
abbrev kb : ByteArray := ⟨#[98]⟩
abbrev kc : ByteArray := ⟨#[99]⟩
abbrev a3 : Entry := ⟨ka, 3, false, ⟨#[]⟩⟩
abbrev c1 : Entry := ⟨kc, 1, false, ⟨#[]⟩⟩
abbrev a2 : Entry := ⟨ka, 2, false, ⟨#[120]⟩⟩
abbrev b5 : Entry := ⟨kb, 5, false, ⟨#[]⟩⟩
theorem lab : SLt ka kb := slt_iff.2 (by decide)
theorem lbc : SLt kb kc := slt_iff.2 (by decide)
theorem lac : SLt ka kc := slt_iff.2 (by decide)
theorem ord1 : Ordd [a3, c1] := pw_ordd (by simp only [List.pairwise_cons, List.mem_cons, List.not_mem_nil, or_false, forall_eq]; exact ⟨.inl lac, fun _ h => h.elim, .nil⟩)
theorem ord2 : Ordd [a2, b5] := pw_ordd (by simp only [List.pairwise_cons, List.mem_cons, List.not_mem_nil, or_false, forall_eq]; exact ⟨.inl lab, fun _ h => h.elim, .nil⟩)
theorem pw4 : PW [a3, a2, b5, c1] := by
  refine .cons (fun x hx => ?_) (.cons (fun x hx => ?_) (.cons (fun x hx => ?_) (.cons (fun x hx => by cases hx) .nil)))
  · simp only [List.mem_cons, List.not_mem_nil, or_false] at hx
    rcases hx with rfl | rfl | rfl
    · exact .inr ⟨rfl, by decide⟩
    · exact .inl lab
    · exact .inl lac
  · simp only [List.mem_cons, List.not_mem_nil, or_false] at hx
    rcases hx with rfl | rfl
    · exact .inl lab
    · exact .inl lac
  · simp only [List.mem_cons, List.not_mem_nil, or_false] at hx
    subst hx
    exact .inl lbc
theorem ref4 : refM [a3, c1, a2, b5] = [a3, a2, b5, c1] := by
  refine (isM_refM _).uniq (isM_dist ?_ pw4 fun x => ?_)
  · refine .cons (fun x hx => ?_) (.cons (fun x hx => ?_) (.cons (fun x hx => ?_) (.cons (fun x hx => by cases hx) .nil)))
    · simp only [List.mem_cons, List.not_mem_nil, or_false] at hx
      rcases hx with rfl | rfl | rfl <;> exact fun h => absurd h (by decide)
    · simp only [List.mem_cons, List.not_mem_nil, or_false] at hx
      rcases hx with rfl | rfl <;> exact fun h => absurd h (by decide)
    · simp only [List.mem_cons, List.not_mem_nil, or_false] at hx
      subst hx; exact fun h => absurd h (by decide)
  · simp only [List.mem_cons, List.not_mem_nil, or_false]
    constructor <;> (rintro (h | h | h | h) <;> simp [h])
theorem vis4 : vis 2 [a3, a2, b5, c1] = [⟨ka, ⟨#[120]⟩⟩, ⟨kc, ⟨#[]⟩⟩] := by
  rw [vis_hi (by decide), vis_lo (by decide)]
  have e : past ka [b5, c1] = [b5, c1] := by unfold past; rw [if_neg (by decide)]
  rw [e, vis_hi (by decide), vis_lo (by decide)]
  simp [shown, past, vis]
theorem rlE {H : Heap} : ∀ {l : List Entry}, (∀ e ∈ l, okE e) → RL rEntry H (l.map Entry.cv).flatten l
  | [], _ => rfl
  | e :: l, h => ⟨e.cv, _, rfl, ⟨rfl, h e (List.mem_cons_self ..)⟩, rlE fun x hx => h x (List.mem_cons_of_mem _ hx)⟩
theorem rlL {H : Heap} : ∀ {vs : List Value} {ls : List (List Entry)}, vs.length = ls.length → (∀ i (h : i < ls.length) (h' : i < vs.length), LB H vs[i] ls[i]) → RL (rSl rEntry 4 48) H vs ls
  | [], [], _, _ => rfl
  | v :: vs, l :: ls, e, h => ⟨[v], vs, rfl, ⟨v, rfl, h 0 (by simp) (by simp)⟩, rlL (by simpa using e) fun i hi hi' => h (i + 1) (by simpa using hi) (by simpa using hi')⟩
  | [], _ :: _, e, _ => by cases e
  | _ :: _, [], e, _ => by cases e
theorem ok4 : okE a3 ∧ okE c1 ∧ okE a2 ∧ okE b5 := by
  refine ⟨⟨?_, ?_, ?_⟩, ⟨?_, ?_, ?_⟩, ⟨?_, ?_, ?_⟩, ⟨?_, ?_, ?_⟩⟩ <;> first | decide | (unfold fits; decide)
set_option maxHeartbeats 4000000 in
theorem awake_spec {W0 : GW} {H : Heap} (hs : W0.s = .solo) : Ct Try.prog 8 #[] W0 H [] (fun r H' B => r = .bool true ∧ B = []) := by
  refine Ct.go (vs := []) fun R => ?_
  refine walk ?_
  refine ops_bsM [a3.cv, c1.cv] rfl rfl ⟨⟨rfl, rfl⟩, ⟨rfl, rfl⟩, trivial⟩ fun p1 _ => ?_
  refine ops_L (row_ownS (R := rEntry) (H := H) (w := 48) (xs := [a3, c1]) (rlE (l := [a3, c1]) fun e he => by simp only [List.mem_cons, List.not_mem_nil, or_false] at he; rcases he with rfl | rfl <;> simp [ok4]) (by simp [cap47]) (by simp)) ?_
  refine ops_freeze (.slice (some ⟨p1, 0, none⟩) 2 2) fun H1 hl1 q1 => ?_
  refine walk ?_
  refine ops_bsM [a2.cv, b5.cv] rfl rfl ⟨⟨rfl, rfl⟩, ⟨rfl, rfl⟩, trivial⟩ fun p2 _ => ?_
  refine ops_L (row_ownS (R := rEntry) (H := H1) (w := 48) (xs := [a2, b5]) (rlE (l := [a2, b5]) fun e he => by simp only [List.mem_cons, List.not_mem_nil, or_false] at he; rcases he with rfl | rfl <;> simp [ok4]) (by simp [cap47]) (by simp)) ?_
  refine ops_freeze (.slice (some ⟨p2, 0, none⟩) 2 2) fun H2 hl2 q2 => ?_
  refine walk ?_
  refine ops_bsM [[.slice (some ⟨p1, 0, none⟩) 2 2], [.slice (some ⟨p2, 0, none⟩) 2 2]] rfl rfl ⟨⟨rfl, rfl⟩, ⟨rfl, rfl⟩, trivial⟩ fun p3 _ => ?_
  have q1' := q1.mono hl2
  refine ops_L (row_ownS (R := rSl rEntry 4 48) (H := H2) (w := 24) (xs := [[a3, c1], [a2, b5]]) (rlL rfl fun i h h' => by
    have : i = 0 ∨ i = 1 := by simp at h; omega
    rcases this with rfl | rfl
    · exact q1'
    · exact q2) (by simp [cap47]) (by simp)) ?_
  refine ops_freeze (.slice (some ⟨p3, 0, none⟩) 2 2) fun H3 hl3 q3 => ?_
  refine ops_call rfl rfl (merge_spec hs q3 (by simp [tot, cap47]) (by simp)) fun r H' B hl ⟨⟨s, code, res, er, hlb, hh⟩, eB⟩ => ?_
  subst er eB
  have hall : ∀ l ∈ [[a3, c1], [a2, b5]], Ordd l := fun l hl => by
    simp only [List.mem_cons, List.not_mem_nil, or_false] at hl
    rcases hl with rfl | rfl
    · exact ord1
    · exact ord2
  rcases hh with ⟨hno, _⟩ | ⟨_, rfl, hm⟩
  · exact absurd hall hno
  have hres : res = [a3, a2, b5, c1] := by
    rw [mrg_ref hm hall]
    show (refM [a3, c1, a2, b5]).take _ = _
    rw [ref4, List.take_of_length_le (by simp)]
  subst hres
  obtain ⟨sb, sc, rfl, _, _⟩ := hlb.1.shape
  refine walk ?_
  refine ops_call rfl rfl (visible_spec hlb) fun r H4 B hl4 ⟨⟨s2, code2, res2, er, hpb, hh2⟩, eB⟩ => ?_
  subst er eB
  rcases hh2 with ⟨hno, _⟩ | ⟨_, rfl, hv⟩
  · exact absurd (pw_ordd pw4) hno
  rw [vis4] at hv
  subst hv
  have hlb4 := hlb.mono hl4
  obtain ⟨pb, pc, rfl, _, _⟩ := hpb.1.shape
  refine walk ?_
  rw [show decide ((([a3, a2, b5, c1] : List Entry).length : Int) = 4) = true from rfl]
  refine walk ?_
  refine ops_ixp (j := 1) (hi := ⟨rfl⟩) rfl rfl hlb4.1 (by simp) fun b1 o1 c1 k1 k2 => ?_
  obtain ⟨rfl, -⟩ := k2
  refine walk ?_
  rw [show decide (([a3, a2, b5, c1] : List Entry)[1].Seq = 2) = true from rfl]
  refine walk ?_
  rw [show decide ((([⟨ka, ⟨#[120]⟩⟩, ⟨kc, ⟨#[]⟩⟩] : List Pair).length : Int) = 2) = true from rfl]
  refine walk ?_
  refine ops_ixp (j := 0) (hi := ⟨rfl⟩) rfl rfl hpb.1 (by simp) fun b2 o2 c2 k3 k4 => ?_
  obtain ⟨rfl, -⟩ := k4
  refine ops_ldNH rfl rfl k3 rfl ?_
  refine walk ?_
  refine ops_eqS (ok := okPq) (p := True) rfl rfl rfl ⟨_, ⟨ka, ⟨#[120]⟩⟩, rfl, rfl⟩ ⟨fun _ => rfl, fun _ => trivial⟩ ?_
  rw [show decide True = true from rfl]
  refine walk ?_
  refine ops_ixp (j := 1) (hi := ⟨rfl⟩) rfl rfl hpb.1 (by simp) fun b3 o3 c3 k5 k6 => ?_
  obtain ⟨rfl, -⟩ := k6
  refine walk ?_
  rw [show decide (([⟨ka, ⟨#[120]⟩⟩, ⟨kc, ⟨#[]⟩⟩] : List Pair)[1].Key = kc) = true from rfl]
  refine walk ?_
  refine fin0 ?_
  exact ⟨rfl, rfl⟩
theorem tot_le {ls : List (List Entry)} (h : ∀ l ∈ ls, l.length ≤ 60) : tot ls ≤ ls.length * 60 := by
  induction ls with
  | nil => simp [tot]
  | cons a t ih =>
    have h1 := ih fun l hl => h l (List.mem_cons_of_mem _ hl)
    have h2 := h a (List.mem_cons_self ..)
    simp only [tot, List.map_cons, List.sum_cons, List.length_cons] at h1 ⊢
    omega
theorem cutL_len {ls : List (List Entry)} : (cutL ls).length ≤ 8 := by simp only [cutL, List.length_map, List.length_take]; omega
theorem cutL_el {ls : List (List Entry)} : ∀ l ∈ cutL ls, l.length ≤ 60 := fun l hl => by
  obtain ⟨x, _, rfl⟩ := List.mem_map.1 hl
  simp only [List.length_take]; omega
theorem cutL_tot {ls : List (List Entry)} : tot (cutL ls) * 48 ≤ cap47 := by
  have h1 := tot_le (cutL_el (ls := ls))
  have h2 := cutL_len (ls := ls)
  unfold cap47; omega
theorem cutL_few {ls : List (List Entry)} : (cutL ls).length + 2 < 2147483648 := by
  have h2 := cutL_len (ls := ls)
  omega
theorem cutL_cut {ls : List (List Entry)} : cutL (cutL ls) = cutL ls := by
  have h2 := cutL_len (ls := ls)
  have e : (cutL ls).take 8 = cutL ls := List.take_of_length_le h2
  show ((cutL ls).take 8).map (fun l => l.take 60) = cutL ls
  rw [e]
  refine (List.map_congr_left fun l hl => ?_).trans (List.map_id _)
  exact List.take_of_length_le (cutL_el l hl)
theorem ops_first {n : NF} {W0 : GW} {Q : Exit → Act → GW → Prop} {F : Slots} {H : Heap} {L : List HProp} {ops : Array Oper} {rest : List Oper} {k : List Fr} {ty : TypeId} {pos : String} {aft : Array Edge} {d : Tmp} {l : List Operand} {ts : Array TypeId} {v : Value} {ls : List (List Entry)} {m : Int} (hs : W0.s = .solo) (hv : LsB H v ls) (htot : tot ls * 48 ≤ cap47) (hlen : ls.length + 2 < 2147483648) (ha : opvs F l = some [v, .int .i64 m])
    (hk : ∀ r H', H.le H' → MrgR m ls H' r → Ops Try.prog n W0 Q ((d, r) :: F) H' L false ops rest k) (hd : Nat.blt d n.n = true := by rfl) :
    Ops Try.prog n W0 Q F H L false ops (⟨some d, .call ⟨.value (.func 11), l.toArray, ts⟩, ty, pos, aft, none⟩ :: rest) k := by
  refine ops_call rfl ha (first_spec hs hv.lst hlen hv.lens htot) (fun r H' B hl ⟨eH, hh⟩ => ?_) .nil hd
  subst eH
  rcases hh with ⟨h1, rfl, rfl⟩ | ⟨h1, s, res, h2, rfl, rfl⟩
  · exact hk _ _ hl ⟨_, _, [], rfl, ⟨SlR.nil _ _ _ _ _ (by decide), by simp⟩, .inl ⟨h1, rfl, rfl⟩⟩
  · refine ops_freeze s fun H' hl q => ?_
    exact hk _ _ hl ⟨_, _, _, rfl, q, .inr ⟨h1, rfl, h2⟩⟩
set_option maxHeartbeats 4000000 in
theorem merges_law {W0 : GW} {H : Heap} {v : Value} {ls : List (List Entry)} {n : Int} (hs : W0.s = .solo) (hv : LsB H v ls) : CtR Try.prog 3 #[v, .int .i64 n] W0 H [] (fun r H' B => r = .bool true ∧ B = []) := by
  refine CtR.go (vs := [_, _]) fun R => ?_
  obtain ⟨b0, c0, rfl, hc0, hd0⟩ := hv.1.shape
  refine walk ?_
  refine ops_call rfl rfl (awake_spec hs) fun r H1 B hl1 ⟨er, eB⟩ => ?_
  subst er eB
  refine walk ?_
  refine ops_call rfl rfl (cut_spec (hv.mono hl1)) fun r H2 B hl2 ⟨q2, eB⟩ => ?_
  subst eB
  obtain ⟨b2, c2, rfl, hc2, hd2⟩ := q2.1.shape
  refine walk ?_
  refine ops_call rfl rfl (cut_spec q2) fun r H3 B hl3 ⟨q3, eB⟩ => ?_
  subst eB
  rw [cutL_cut] at q3
  obtain ⟨b3, c3, rfl, hc3, hd3⟩ := q3.1.shape
  refine ops_call rfl rfl (merge_spec hs q3 cutL_tot cutL_few) fun r H4 B hl4 ⟨⟨s4, code4, res4, er, p4, hh4⟩, eB⟩ => ?_
  subst er eB
  obtain ⟨b4, c4, rfl, hc4, hd4⟩ := p4.1.shape
  refine walk ?_
  have q4 := q2.mono (hl3.trans hl4)
  refine ops_call rfl rfl (cut_spec q4) fun r H5 B hl5 ⟨q5, eB⟩ => ?_
  subst eB
  rw [cutL_cut] at q5
  obtain ⟨b5, c5, rfl, hc5, hd5⟩ := q5.1.shape
  refine walk ?_
  refine ops_first hs q5 cutL_tot cutL_few rfl fun r H6 hl6 ⟨s6, code6, res6, er, p6, hh6⟩ => ?_
  subst er
  obtain ⟨b6, c6, rfl, hc6, hd6⟩ := p6.1.shape
  refine walk ?_
  have q6 := q4.mono (hl5.trans hl6)
  have p4' := p4.mono (hl5.trans hl6)
  refine ops_call rfl rfl (good_spec q6) fun r H7 B hl7 ⟨⟨gb, er, hgb⟩, eB, eH⟩ => ?_
  subst er eB eH
  cases gb with
  | false =>
    have hno : ¬ ∀ l ∈ cutL ls, Ordd l := fun h => by cases hgb.2 h
    obtain ⟨-, rfl, rfl⟩ := hh4.resolve_right fun h => hno h.1
    obtain ⟨-, rfl, rfl⟩ := hh6.resolve_right fun h => hno h.1
    refine walk ?_
    rw [show decide ((([] : List Entry).length : Int) = 0) = true from rfl]
    refine walk ?_
    refine fin0 ?_
    exact ⟨rfl, rfl⟩
  | true =>
    have hyes := hgb.1 rfl
    obtain ⟨-, rfl, m4⟩ := hh4.resolve_left fun h => h.1 hyes
    obtain ⟨-, rfl, m6⟩ := hh6.resolve_left fun h => h.1 hyes
    refine walk ?_
    refine ops_call rfl rfl (rMerge_spec q6 cutL_tot) fun r H8 B hl8 ⟨q8, eB⟩ => ?_
    subst eB
    obtain ⟨b8, c8, rfl, hc8, hd8⟩ := q8.1.shape
    refine walk ?_
    have hmax : (refM (cutL ls).flatten).length ≤ (9223372036854775807 : Int).toNat := by have := q8.len; simp only [cap47] at this; omega
    have e4 := mrg_ref m4 hyes
    rw [List.take_of_length_le hmax] at e4
    have e6 := mrg_ref m6 hyes
    refine ops_call rfl rfl (same_spec (p4'.mono hl8) q8) fun r H9 B hl9 ⟨er, eB, eH⟩ => ?_
    subst er eB eH
    rw [decide_eq_true e4]
    refine walk ?_
    have hk : (max 0 (min n ((refM (cutL ls).flatten).length : Int))).toNat ≤ (refM (cutL ls).flatten).length := by omega
    have hpre := SlR.pre q8.1 hk
    have ht : (refM (cutL ls).flatten).take (max 0 (min n ((refM (cutL ls).flatten).length : Int))).toNat = (refM (cutL ls).flatten).take n.toNat := by
      rcases Nat.le_total n.toNat (refM (cutL ls).flatten).length with h | h
      · congr 1; omega
      · rw [List.take_of_length_le h, List.take_of_length_le (by omega)]
    rw [ht] at hpre
    refine ops_call rfl rfl (same_spec (p6.mono hl8) ⟨hpre, by have := q8.2; simp only [List.length_take]; omega⟩) fun r H10 B hl10 ⟨er, eB, eH⟩ => ?_
    subst er eB eH
    rw [decide_eq_true e6]
    refine walk ?_
    refine fin0 ?_
    exact ⟨rfl, rfl⟩
end Go.Proofs.Ytjkiioicjmaeoaa
