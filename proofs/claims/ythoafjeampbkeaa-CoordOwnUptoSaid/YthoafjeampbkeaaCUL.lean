/- Both coordinators side by side: what holds behind each move; Begin's answers in one form. -/
import Derived.Test.YthoafjeampbkeaaCUJ
import Derived.Test.YthoafjeampbkeaaCUK
import Derived.Test.YthoafjeampbkeaaN2
set_option linter.unusedVariables false
set_option linter.unusedSimpArgs false
namespace Go.Proofs.Ythoafjeampbkeaa
open Go Go.Sx Go.Proofs
/-- the coordinator and the reference's, behind k moves -/
structure PI (k : Nat) (s : CS) (m : Coord) : Prop where
  I : CInv k s
  r : CRel s m
  pl : ∀ key t, mget key s.ts = some t → t.parts.length ≤ 8
  lf : 0 ≤ s.life ∧ s.life ≤ (k : Int) + 1
theorem pi0 {node : Int} (h : fits node) : PI 0 ⟨node, 1, 0, []⟩ ⟨node, 1, 0, []⟩ := ⟨cinv0 h (by unfold fits; omega), crel0, fun k t h => (by cases h), by simp⟩
theorem PI.more {k k' : Nat} {s : CS} {m : Coord} (h : PI k s m) (hk : k ≤ k') : PI k' s m := ⟨h.I.more hk, h.r, h.pl, h.lf.1, by have := h.lf.2; omega⟩
theorem PI.len {k : Nat} {s : CS} {m : Coord} (h : PI k s m) : m.Txns.length ≤ k := by
  have h1 := congrArg List.length (h.r.all h.I)
  rw [List.length_map, allC_len] at h1
  have := h.I.ln
  omega
theorem PI.txs {k : Nat} {s : CS} {m : Coord} (h : PI k s m) : TxsOk m.Txns := fun t ht => by
  obtain ⟨x, hx, g⟩ := h.r.mem t ht
  refine ⟨?_, fun ho => ?_, ?_⟩
  · rw [g.hd, g.ps, List.length_map]
  · rw [g.wk (by rw [← g.op]; exact ho), g.ps, List.length_map]
  · rw [g.ps]; have := h.pl _ _ hx; omega
theorem PI.ct {k : Nat} {s : CS} {m : Coord} (h : PI k s m) : 0 ≤ m.Count ∧ m.Count ≤ k := by rw [h.r.count]; exact h.I.c0
/-- what Begin says -/
def BegA (s : CS) (now : Int) (l : List Work) (x : Txn) (out : List Message) (e : Int) (s' : CS) : Prop :=
  ∃ ws, pq ws = works0 0 l ∧ ((ws = [] ∧ x = ⟨0, 0, 0⟩ ∧ out = [] ∧ e = 4 ∧ s' = s) ∨ (ws ≠ [] ∧ x = newX s ∧ out = againL s.node (newX s) (beganT now ws) ∧ e = 0 ∧ s' = beginS s now ws))
def RBegA (m : Coord) (now : Int) (l : List Work) (x : Txn) (out : List Message) (e : Int) (m' : Coord) : Prop :=
  (works0 0 l = [] ∧ x = ⟨0, 0, 0⟩ ∧ out = [] ∧ e = 4 ∧ m' = m) ∨ (works0 0 l ≠ [] ∧ x = ⟨m.Node, m.Life, m.Count + 1⟩ ∧ out = againR m.Node (begunR m now (works0 0 l)) (works0 0 l).length ∧ e = 0 ∧ m' = ⟨m.Node, m.Life, m.Count + 1, putR (begunR m now (works0 0 l)) m.Txns⟩)
theorem pq_nil {ws : List (Int × CW)} : pq ws = [] ↔ ws = [] := by unfold pq; simp
theorem pq_len {ws : List (Int × CW)} : (pq ws).length = ws.length := by unfold pq; simp
theorem again_begun {s : CS} {now : Int} {ws : List (Int × CW)} (hn : (ws.map (·.1)).Nodup) : againL s.node (newX s) (beganT now ws) = beginOut s (pq ws) := by
  unfold againL beginOut pq
  rw [List.map_map]
  have h1 : ((beganT now ws).parts.filter fun p => !(beganT now ws).hd p) = ws.map (·.1) := by
    rw [List.filter_eq_self.2]
    · rfl
    · intro a ha; rfl
  rw [h1, List.map_map]
  refine List.map_congr_left fun q hq => ?_
  show prepM s.node (newX s) q.1 ((mget q.1 ws).getD zCW).2 = prepM s.node (newX s) q.1 q.2.2
  rw [mget_of_mem hn hq]; rfl
theorem PI.begin {k : Nat} {s s' : CS} {m m' : Coord} {now : Int} {l : List Work} {x y : Txn} {out out2 : List Message} {e e2 : Int} (h : PI k s m) (hk : k ≤ 1000) (hl : l.length ≤ 8) (hnow : fits now) (a : BegA s now l x out e s') (b : RBegA m now l y out2 e2 m') :
    x = y ∧ out = out2 ∧ e = e2 ∧ PI (k + 1) s' m' := by
  obtain ⟨ws, hws, a⟩ := a
  have hwf : ws.map (·.1) = (works0 0 l).map (·.1) := works0_map hws
  have hnd : (ws.map (·.1)).Nodup := by
    rw [hwf, List.nodup_iff_pairwise_ne]
    exact works0_rise.imp fun h e => by omega
  have hI := CInv.begin h.I (ws := ws) (now := now) hws (by omega) hnow (by omega)
  rcases a with ⟨hw, rfl, rfl, rfl, rfl⟩ | ⟨hw, rfl, rfl, rfl, rfl⟩ <;> rcases b with ⟨hw2, rfl, rfl, rfl, rfl⟩ | ⟨hw2, rfl, rfl, rfl, rfl⟩
  · exact ⟨rfl, rfl, rfl, h.more (Nat.le_succ _)⟩
  · exact absurd (by rw [← hws, hw]; rfl) hw2
  · exact absurd (pq_nil.1 (hws.trans hw2)) hw
  · have hr := h.r.begin (now := now) hnd hw
    have ho := begin_out (now := now) h.r hnd
    rw [show ws.map (fun q => (q.1, q.2.2)) = works0 0 l from hws] at hr ho
    refine ⟨?_, ?_, rfl, ⟨hI, hr, fun key t hg => ?_, ?_⟩⟩
    · unfold newX; rw [h.r.node, h.r.life, h.r.count]
    · rw [again_begun hnd, hws, ← ho, ← hws, pq_len]
    · unfold beginS at hg
      rw [if_neg hw] at hg
      have hg' : mget key (mset (newX s).k (beganT now ws) s.ts) = some t := hg
      rw [mget_mset] at hg'
      split at hg'
      · cases hg'
        show (ws.map (·.1)).length ≤ 8
        rw [hwf, List.length_map]
        exact Nat.le_trans works0_len hl
      · exact h.pl _ _ hg'
    · have := h.lf
      unfold beginS
      rw [if_neg hw]
      exact ⟨this.1, by have := this.2; show s.life ≤ ((k + 1 : Nat) : Int) + 1; omega⟩
theorem hear_parts {n : Nat} {s : CS} (I : CInv n s) {m : Message} {key : K3} {t : TX} (h : mget key (cHear s m).s.ts = some t) : ∃ t0, mget key s.ts = some t0 ∧ t.parts = t0.parts := by
  have hput : ∀ {t1 : TX}, s.isT m.Txn → t1.parts = (s.tx m.Txn).parts → mget key (s.put m.Txn.k t1).ts = some t → ∃ t0, mget key s.ts = some t0 ∧ t.parts = t0.parts := fun {t1} hi hp hg => by
    have hg' : mget key (mset m.Txn.k t1 s.ts) = some t := hg
    rw [mget_mset] at hg'
    split at hg'
    · next e => cases hg'; rw [e]; exact ⟨_, CS.get_tx hi, hp⟩
    · exact ⟨t, hg', rfl⟩
  have hcut : mget key (s.cut m.Txn.k).ts = some t → ∃ t0, mget key s.ts = some t0 ∧ t.parts = t0.parts := fun hg => ⟨t, mget_mdel_some I.nd hg, rfl⟩
  unfold cHear at h
  split at h
  · exact ⟨t, h, rfl⟩
  split at h
  · exact ⟨t, h, rfl⟩
  split at h
  · exact hcut h
  split at h
  · next hc =>
    split at h
    · exact hput (t1 := hear1 (s.tx m.Txn) m.From) hc.2.1.1 rfl h
    · exact hput (t1 := openT (s.tx m.Txn)) hc.2.1.1 rfl h
  split at h
  · next hc =>
    split at h
    · exact hput (t1 := hear1 (s.tx m.Txn) m.From) hc.2.1.1 rfl h
    · exact hcut h
  · exact ⟨t, h, rfl⟩
theorem hear_life {s : CS} {m : Message} : (cHear s m).s.life = s.life := by
  unfold cHear
  repeat' split
  all_goals rfl
theorem PI.hear {k : Nat} {s : CS} {m m' : Coord} {g : Message} {out : List Message} {rec : List Rec} {oc : List ROc} (h : PI k s m) (a : RCHear m g m' out rec oc) :
    out = (cHear s g).out ∧ rec = (cHear s g).rc ∧ oc = (cHear s g).oc.map toOc ∧ PI (k + 1) (cHear s g).s m' := by
  obtain ⟨h1, h2, h3, h4⟩ := h.r.hear h.I a
  refine ⟨h1, h2, h3, ⟨(h.I.hear).more (Nat.le_succ _), h4, fun key t hg => ?_, ?_⟩⟩
  · obtain ⟨t0, hg0, e⟩ := hear_parts h.I hg
    rw [e]; exact h.pl _ _ hg0
  · rw [hear_life]; have := h.lf; omega
theorem PI.step {k : Nat} {s : CS} {m : Coord} {now : Int} (h : PI k s m) :
    m.Txns.flatMap (stepOutR m.Node now) = stepOut s now ∧ ocsR now m.Txns = (stepOc s now).map toOc ∧ PI (k + 1) (stepS s now) { m with Txns := cutsR now m.Txns m.Txns } := by
  obtain ⟨h1, h2, h3⟩ := h.r.step (now := now) h.I
  refine ⟨h1, h2, ⟨(h.I.step).more (Nat.le_succ _), ?_, fun key t hg => ?_, ?_⟩⟩
  · rw [cutsR_rise h.r.rise]; exact h3
  · exact h.pl _ _ ((stepS_get h.I).1 hg).1
  · have := h.lf; exact ⟨this.1, by have := this.2; show s.life ≤ ((k + 1 : Nat) : Int) + 1; omega⟩
theorem openRL_eq {l : List RTx} : openRL l = (l.filter fun t => t.Open).map fun t => recC t.X t.Parts := rfl
/-- what is open is loaded in the next life -/
theorem PI.load {k : Nat} {s : CS} {m : Coord} (h : PI k s m) (hk : k ≤ 1000) :
    openRL m.Txns = openL s ∧ (∀ q ∈ openL s, OkR s.node (s.life + 1) q) ∧ ((openL s).map (·.Txn.k)).Nodup ∧ PI (k + 1) ⟨s.node, s.life + 1, 0, loadTs (openL s) []⟩ ⟨s.node, s.life + 1, 0, loadRs (openL s)⟩ := by
  have hlf := h.lf
  have hfl : fits (s.life + 1) := by unfold fits; omega
  refine ⟨?_, fun q hq => (openL_ok h.I hq).1, openL_nodup h.I, ⟨(CInv.load (n := k) h.I.fn hfl (Nat.le_trans openL_len h.I.ln) fun r hr => openL_ok h.I hr).more (Nat.le_succ _), crel_load, ?_, ?_⟩⟩
  · rw [openRL_eq, ← h.r.open h.I]
  · refine loadTs_all (P := fun _ t => t.parts.length ≤ 8) (fun k t h => by cases h) fun r hr => ?_
    obtain ⟨key, t, hg, _, rfl⟩ := mem_openL hr
    exact h.pl _ t hg
  · exact ⟨by show 0 ≤ s.life + 1; omega, by show s.life + 1 ≤ ((k + 1 : Nat) : Int) + 1; omega⟩
/-- Begin, its answers in one form -/
theorem begin2_spec {W0 : World} {H : Heap} {p n : Nat} {s : CS} {v : Value} {l : List Work} {now : Int} (I0 : CInv n s) (hn : n ≤ 1000) (hnow : fits now) (hw : SlB rWork 3 56 H v l) (hl : l.length ≤ 1000) :
    Ct Try.prog 11 #[.pointer (some ⟨p, 0, none⟩), v, I now] W0 H [coordO H p s]
      (fun r H' B => ∃ x v1 e out s', r = .tuple #[.agg (Txn.cv x).toArray, v1, I e] ∧ BegA s now l x out e s' ∧ B = [ownS rMessage 19 216 53 H' v1 out, coordO H' p s']) := by
  refine (begin_spec I0 hn hnow hw hl).fold fun r H' B R hle hq => ?_
  obtain ⟨ws, hws, ⟨h1, rfl, rfl⟩ | ⟨h1, v1, rfl, rfl⟩⟩ := hq
  · exact ⟨[ownS rMessage 19 216 53 H' nilS [], coordO H' p s], ⟨⟨0, 0, 0⟩, nilS, 4, [], s, rfl, ⟨ws, hws, .inl ⟨h1, rfl, rfl, rfl, rfl⟩⟩, rfl⟩, ownS_nil⟩
  · exact ⟨_, ⟨newX s, v1, 0, _, _, rfl, ⟨ws, hws, .inr ⟨h1, rfl, rfl, rfl, rfl⟩⟩, rfl⟩, Sub.refl _⟩
theorem rBegin2_spec {W0 : World} {H : Heap} {c : List Value} {m : Coord} {v : Value} {l : List Work} {now : Int} (h0 : rCoord H c m) (hw : SlB rWork 3 56 H v l) (hl : l.length ≤ 1000) (hnow : fits now) (hct : fits (m.Count + 1)) (hn : m.Txns.length ≤ 100000) :
    Ct Try.prog 12 #[.agg c.toArray, v, I now] W0 H [] (fun r H' B => ∃ c' x v1 e out m', r = .tuple #[.agg c'.toArray, .agg (Txn.cv x).toArray, v1, I e] ∧ RBegA m now l x out e m' ∧ rCoord H' c' m' ∧ B = [ownS rMessage 19 216 53 H' v1 out]) := by
  refine (rBeginC_spec h0 hw hl hnow hct hn).fold fun r H' B R hle hq => ?_
  rcases hq with ⟨h1, rfl, rfl⟩ | ⟨h1, c', v1, rfl, hc', rfl⟩
  · exact ⟨[ownS rMessage 19 216 53 H' nilS []], ⟨c, ⟨0, 0, 0⟩, nilS, 4, [], m, rfl, .inl ⟨h1, rfl, rfl, rfl, rfl⟩, RdOk.mono (R := rCoord) hle h0, rfl⟩, ownS_nil⟩
  · exact ⟨_, ⟨c', ⟨m.Node, m.Life, m.Count + 1⟩, v1, 0, _, _, rfl, .inr ⟨h1, rfl, rfl, rfl, rfl⟩, hc', rfl⟩, Sub.refl _⟩
end Go.Proofs.Ythoafjeampbkeaa
