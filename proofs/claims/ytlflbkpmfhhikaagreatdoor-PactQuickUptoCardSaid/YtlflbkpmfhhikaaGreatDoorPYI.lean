/- The document's example, move by move. No program in sight. -/
import Derived.Test.YtlflbkpmfhhikaaGreatDoorPLS
import Derived.Test.YtlflbkpmfhhikaaGreatDoorPYG
set_option linter.unusedVariables false
set_option linter.unusedSimpArgs false
namespace Go.Proofs.YtlflbkpmfhhikaaGreatDoor
open Go Go.Sx Go.Proofs
theorem works0_mem : ∀ {l : List Work} {i : Int} {q : Int × Work}, q ∈ works0 i l → q.2 ∈ l
  | [], i, q, h => by cases h
  | w :: l, i, q, h => by
    unfold works0 at h
    split at h
    · rcases List.mem_cons.1 h with rfl | h
      · exact List.mem_cons_self ..
      · exact List.mem_cons_of_mem _ (works0_mem h)
    · exact List.mem_cons_of_mem _ (works0_mem h)
theorem set_self {w : PW} {i : Nat} (h : i < w.ns.length) : setN w i ⟨w.ns[i].ps, w.ns[i].cs⟩ = w := by
  unfold setN
  rw [show (⟨w.ns[i].ps, w.ns[i].cs⟩ : PN) = w.ns[i] from rfl, List.set_getElem_self]
theorem WInv.begin {n K : Nat} {B : List BT} {w : PW} (I : WInv n K B w) (hK : K < 300) {i : Nat} (h : i < w.ns.length) {works : List Work} (hwl : works.length ≤ w.ns.length) (hok : ∀ x ∈ works, OkW x) {ws : List (Int × CW)} (hw : pq ws = works0 0 works) {nt : List Message} (hn : ∀ g ∈ nt, g ∈ w.net ∨ g ∈ saidB w.ns[i].cs w.now ws) (hl : nt.length ≤ 64) :
    ∃ B', WInv n (K + 1) B' { setN w i ⟨w.ns[i].ps, beginS w.ns[i].cs w.now ws⟩ with net := nt } ∧ (B' = B ∨ (ws ≠ [] ∧ B' = ⟨newX w.ns[i].cs, works0 0 works⟩ :: B)) := by
  by_cases hne : ws = []
  · refine ⟨B, ?_, .inl rfl⟩
    subst hne
    have e1 : beginS w.ns[i].cs w.now [] = w.ns[i].cs := if_pos rfl
    have e2 : saidB w.ns[i].cs w.now [] = [] := if_pos rfl
    rw [e2] at hn
    rw [e1, set_self h]
    exact (I.less (fun g hg => (hn g hg).resolve_right fun h => by cases h) hl).more (Nat.le_succ K) hK
  · have hlen := I.len
    have hn4 := I.n4
    have hnow := I.now
    have hK3 := I.k3
    have hfn := I.life i h
    have IC := I.N.C i h
    have hfst : ws.map (·.1) = (works0 0 works).map (·.1) := by rw [← hw, pq_fst]
    have hnd : (ws.map (·.1)).Nodup := by
      rw [hfst, List.nodup_iff_pairwise_ne]
      exact works0_rise.imp fun h e => by omega
    have hf : ¬ knB B (newX w.ns[i].cs) := by
      rintro ⟨b, hb, hx⟩
      obtain ⟨j, hj, h1, h2, h3, h4⟩ := I.bx b hb
      have hji : j = i := by
        rw [hx] at h1
        have : (newX w.ns[i].cs).Node = w.ns[i].cs.node := rfl
        rw [this, (I.N.sh i h).2] at h1
        omega
      subst hji
      have h5 := h4 (by rw [hx]; rfl)
      rw [hx] at h5
      have h6 : (newX w.ns[j].cs).Count = w.ns[j].cs.count + 1 := rfl
      omega
    have T := begin_turn (now := w.now) I.N I.S h hne hnd hf
    rw [hw] at T
    have hC : CInv (K + 1) (beginS w.ns[i].cs w.now ws) := IC.begin hw (by omega) (by unfold fits; omega) (by omega)
    have hbl : (beginS w.ns[i].cs w.now ws).life = w.ns[i].cs.life ∧ (beginS w.ns[i].cs w.now ws).node = w.ns[i].cs.node ∧ (beginS w.ns[i].cs w.now ws).count = w.ns[i].cs.count + 1 := by unfold beginS; rw [if_neg hne]; exact ⟨rfl, rfl, rfl⟩
    have hN : NOk (K + 1) (setN w i ⟨w.ns[i].ps, beginS w.ns[i].cs w.now ws⟩) := I.N.set (Nat.le_succ K) h rfl (I.N.sh i h).1 (hbl.2.1.trans (I.N.sh i h).2) ((I.N.P i h).more (Nat.le_succ K)) hC
    have hlc : ∀ {j} (hj : j < (w.ns.set i ⟨w.ns[i].ps, beginS w.ns[i].cs w.now ws⟩).length), (w.ns.set i ⟨w.ns[i].ps, beginS w.ns[i].cs w.now ws⟩)[j].cs.life = (w.ns[j]'(by rw [List.length_set] at hj; exact hj)).cs.life ∧ (w.ns[j]'(by rw [List.length_set] at hj; exact hj)).cs.count ≤ (w.ns.set i ⟨w.ns[i].ps, beginS w.ns[i].cs w.now ws⟩)[j].cs.count := fun {j} hj => by
      rw [set_get]
      split
      · next e => subst e; exact ⟨hbl.1, by show w.ns[i].cs.count ≤ (beginS w.ns[i].cs w.now ws).count; rw [hbl.2.2]; omega⟩
      · exact ⟨rfl, Int.le_refl _⟩
    have hts : ∀ {j} (hj : j < (w.ns.set i ⟨w.ns[i].ps, beginS w.ns[i].cs w.now ws⟩).length) {k' t'}, mget k' (w.ns.set i ⟨w.ns[i].ps, beginS w.ns[i].cs w.now ws⟩)[j].cs.ts = some t' → (k' = (newX w.ns[i].cs).k ∧ t' = beganT w.now ws) ∨ mget k' (w.ns[j]'(by rw [List.length_set] at hj; exact hj)).cs.ts = some t' := fun {j} hj {k' t'} hg => by
      rw [set_get] at hg
      split at hg
      · next e =>
        subst e
        have hg' : mget k' (beginS w.ns[i].cs w.now ws).ts = some t' := hg
        unfold beginS at hg'
        rw [if_neg hne] at hg'
        have hg2 : mget k' (mset (newX w.ns[i].cs).k (beganT w.now ws) w.ns[i].cs.ts) = some t' := hg'
        rw [mget_mset] at hg2
        split at hg2
        · next e => cases hg2; exact .inl ⟨e, rfl⟩
        · exact .inr hg2
      · exact .inr hg
    have hH : HdOk (⟨newX w.ns[i].cs, works0 0 works⟩ :: B) (setN w i ⟨w.ns[i].ps, beginS w.ns[i].cs w.now ws⟩) := I.hd.more h rfl T.2.1 fun key r hr => .inl hr
    refine ⟨⟨newX w.ns[i].cs, works0 0 works⟩ :: B, ⟨(List.length_set ..).trans I.len, I.n4, ⟨hN.sh, hN.P, hN.C⟩, fun j hj => ?_, by have := I.bl; simp only [List.length_cons]; omega, by omega, fun b hb => ?_, fun b hb => ?_, T.1, fun j hj k' t hg ho => ?_, fun j hj k' t hg ho => ?_, hH, fun g hg => ?_, hl, I.now⟩, .inr ⟨hne, rfl⟩⟩
    · show 1 ≤ (w.ns.set i ⟨w.ns[i].ps, beginS w.ns[i].cs w.now ws⟩)[j].cs.life ∧ (w.ns.set i ⟨w.ns[i].ps, beginS w.ns[i].cs w.now ws⟩)[j].cs.life ≤ ((K + 1 : Nat) : Int) + 1
      rw [(hlc hj).1]
      have := I.life j (by rw [show (setN w i ⟨w.ns[i].ps, beginS w.ns[i].cs w.now ws⟩).ns = w.ns.set i ⟨w.ns[i].ps, beginS w.ns[i].cs w.now ws⟩ from rfl, List.length_set] at hj; exact hj)
      omega
    · rcases List.mem_cons.1 hb with rfl | hb
      · have hj' : i < (w.ns.set i ⟨w.ns[i].ps, beginS w.ns[i].cs w.now ws⟩).length := by rw [List.length_set]; exact h
        refine ⟨i, hj', (I.N.sh i h).2, ⟨IC.fn, IC.fl, ?_⟩, ?_⟩
        · show fits (w.ns[i].cs.count + 1)
          have := IC.c0; unfold fits; omega
        · show (newX w.ns[i].cs).Life ≤ (w.ns.set i ⟨w.ns[i].ps, beginS w.ns[i].cs w.now ws⟩)[i].cs.life ∧ ((newX w.ns[i].cs).Life = (w.ns.set i ⟨w.ns[i].ps, beginS w.ns[i].cs w.now ws⟩)[i].cs.life → (newX w.ns[i].cs).Count ≤ (w.ns.set i ⟨w.ns[i].ps, beginS w.ns[i].cs w.now ws⟩)[i].cs.count)
          rw [List.getElem_set_self]
          show w.ns[i].cs.life ≤ (beginS w.ns[i].cs w.now ws).life ∧ (w.ns[i].cs.life = (beginS w.ns[i].cs w.now ws).life → w.ns[i].cs.count + 1 ≤ (beginS w.ns[i].cs w.now ws).count)
          rw [hbl.1, hbl.2.2]
          exact ⟨Int.le_refl _, fun _ => Int.le_refl _⟩
      · obtain ⟨j, hj, h1, h2, h3, h4⟩ := I.bx b hb
        have hj' : j < (w.ns.set i ⟨w.ns[i].ps, beginS w.ns[i].cs w.now ws⟩).length := by rw [List.length_set]; exact hj
        refine ⟨j, hj', h1, h2, ?_⟩
        show b.x.Life ≤ (w.ns.set i ⟨w.ns[i].ps, beginS w.ns[i].cs w.now ws⟩)[j].cs.life ∧ (b.x.Life = (w.ns.set i ⟨w.ns[i].ps, beginS w.ns[i].cs w.now ws⟩)[j].cs.life → b.x.Count ≤ (w.ns.set i ⟨w.ns[i].ps, beginS w.ns[i].cs w.now ws⟩)[j].cs.count)
        rw [(hlc hj').1]
        exact ⟨h3, fun e => Int.le_trans (h4 e) (hlc hj').2⟩
    · rcases List.mem_cons.1 hb with rfl | hb
      · refine ⟨works0_rise, fun q hq => ?_⟩
        have := works0_lt (i := 0) (Int.le_refl _) q hq
        exact ⟨this.1, by omega, hok _ (works0_mem hq)⟩
      · exact I.bw b hb
    · rcases hts hj hg with ⟨rfl, rfl⟩ | hg
      · exact ⟨_, List.mem_cons_self .., (toTx_k _).symm, hw⟩
      · obtain ⟨b, hb, e1, e2⟩ := I.W j _ k' t hg ho
        exact ⟨b, List.mem_cons_of_mem _ hb, e1, e2⟩
    · rcases hts hj hg with ⟨rfl, rfl⟩ | hg
      · exact Int.le_refl _
      · exact I.bg j _ k' t hg ho
    · rcases hn g hg with hg | hg
      · exact ⟨(I.J g hg).1.next T.2.1, (I.J g hg).2⟩
      · exact T.2.2 g hg
theorem WInv.quiet {n K m : Nat} {B : List BT} {w w' : PW} {k a e : Int} {works : List Work} (I : WInv n K B w) (hk : k ≠ 1 ∧ k ≠ 7 ∧ k ≠ 8) (h : PPlay m w k a works w' e) : WInv n K B w' := by
  cases h with
  | bad => exact I
  | begin h1 => exact absurd h1 hk.1
  | none => exact I
  | deliver h1 j ha hj w1 out hh =>
    have I1 : WInv n K B { w with net := delM w.net j } := I.less (fun g hg => mem_delM hg) (Nat.le_trans delM_len I.nl)
    have hnet : w1.net = delM w.net j := by cases hh <;> rfl
    exact I1.hear (I.J _ (List.getElem_mem hj)) hh (fun g hg => by rw [hnet] at hg; exact mem_sendL hg) (sendL_len (by rw [hnet]; exact I1.nl))
  | fail h1 => exact absurd h1 hk.2.2
  | drop h1 j ha hj => exact I.less (fun g hg => mem_delM hg) (Nat.le_trans delM_len I.nl)
  | copy h1 j ha hj hf => exact I.less (fun g hg => by rcases List.mem_append.1 hg with hg | hg; exact hg; rw [List.mem_singleton.1 hg]; exact List.getElem_mem hj) (by rw [List.length_append]; simp only [List.length_singleton]; omega)
  | full => exact I
  | step h1 i ha hi => exact I.step hi (fun g hg => by rcases mem_sendL hg with hg | hg; exact (mem_sendL hg).imp id (List.mem_append_left _); exact .inr (List.mem_append_right _ hg)) (sendL_len (sendL_len I.nl))
  | tick h1 h0 h2 => exact I.tick h0 h2
  | crash h1 => exact absurd h1 hk.2.1
theorem WInv.play {n K m : Nat} {B : List BT} {w w' : PW} {k a e : Int} {works : List Work} (I : WInv n K B w) (hK : K < 300) (hok : ∀ x ∈ works, OkW x) (h : PPlay m w k a works w' e) : ∃ B', WInv n (K + 1) B' w' ∧ (B' = B ∨ ((k = 1 ∧ e = 0) ∧ ∃ b, B' = b :: B ∧ b.ws = works0 0 works)) := by
  by_cases hk : k ≠ 1 ∧ k ≠ 7 ∧ k ≠ 8
  · exact ⟨B, (I.quiet hk h).more (Nat.le_succ K) hK, .inl rfl⟩
  cases h with
  | bad => exact ⟨B, I.more (Nat.le_succ K) hK, .inl rfl⟩
  | begin h1 i ha hi hn ws hw =>
    obtain ⟨B', h2, h3⟩ := I.begin hK hi hn hok hw (fun g hg => mem_sendL hg) (sendL_len I.nl)
    refine ⟨B', h2, h3.imp id fun ⟨hne, hb⟩ => ⟨⟨h1, if_neg hne⟩, _, hb, rfl⟩⟩
  | none => exact ⟨B, I.more (Nat.le_succ K) hK, .inl rfl⟩
  | deliver h1 => omega
  | fail h1 j ha hj w1 w2 out hh i hi hc =>
    have I1 : WInv n K B { w with net := delM w.net j } := I.less (fun g hg => mem_delM hg) (Nat.le_trans delM_len I.nl)
    have hnet : w1.net = delM w.net j := by cases hh <;> rfl
    have I2 : WInv n K B { w1 with net := w1.net } := I1.hear (nt := w1.net) (I.J _ (List.getElem_mem hj)) hh (fun g hg => by rw [hnet] at hg; exact .inl hg) (by rw [hnet]; exact I1.nl)
    exact ⟨B, WInv.crash (w := w1) I2 hK hc, .inl rfl⟩
  | drop h1 => omega
  | copy h1 => omega
  | full h1 => omega
  | step h1 => omega
  | tick h1 => omega
  | crash h1 i ha hi _ hc => exact ⟨B, I.crash hK hc, .inl rfl⟩
def newN (i : Nat) : PN := ⟨⟨i, ⟨[], [], []⟩, []⟩, ⟨i, 1, 0, []⟩⟩
def newW (n : Nat) : PW := ⟨(List.range n).map newN, [], 0, []⟩
theorem winv0 {n : Nat} (h : 1 ≤ n ∧ n ≤ 4) : WInv n 0 [] (newW n) := by
  have hg : ∀ i (hi : i < (newW n).ns.length), (newW n).ns[i] = newN i := fun i hi => by
    simp [newW]
  have hl : (newW n).ns.length = n := by show ((List.range n).map newN).length = n; rw [List.length_map, List.length_range]
  have hfi : ∀ i (hi : i < (newW n).ns.length), fits (i : Int) := fun i hi => by rw [hl] at hi; unfold fits; omega
  have ha : absW (newW n) = ⟨fun _ => none, fun _ _ => none, fun _ _ => False, []⟩ := by
    refine AS.eq (fun x => ?_) (fun p x => ?_) (fun p x => ?_) rfl
    · show (nAt (newW n) x.Node).bind _ = none
      cases hn : nAt (newW n) x.Node with
      | none => rfl
      | some q =>
        obtain ⟨i, _, hi, rfl⟩ := nAt_some.1 hn
        rw [hg i hi]; rfl
    · show (nAt (newW n) p).bind _ = none
      cases hn : nAt (newW n) p with
      | none => rfl
      | some q =>
        obtain ⟨i, _, hi, rfl⟩ := nAt_some.1 hn
        rw [hg i hi]; rfl
    · constructor
      · rintro ⟨q, hn, hd⟩
        obtain ⟨i, _, hi, rfl⟩ := nAt_some.1 hn
        rw [hg i hi] at hd; cases hd
      · exact fun h => h.elim
  refine ⟨hl, h, ⟨fun i hi => ?_, fun i hi => ?_, fun i hi => ?_⟩, fun i hi => ?_, by simp, by omega, fun b hb => (by cases hb), fun b hb => (by cases hb), by rw [ha]; exact si0, fun i hi k t hg' => ?_, fun i hi k t hg' => ?_, fun i hi k r hg' => ?_, fun m hm => (by cases hm), by simp [newW], ⟨Int.le_refl 0, by show (0 : Int) ≤ _; omega⟩⟩
  · rw [hg i hi]; exact ⟨rfl, rfl⟩
  · rw [hg i hi]; exact pinv0 (hfi i hi)
  · rw [hg i hi]; exact cinv0 (hfi i hi) (by unfold fits; omega)
  · rw [hg i hi]; show (1 : Int) ≤ 1 ∧ (1 : Int) ≤ ((0 : Nat) : Int) + 1; omega
  · rw [hg i hi] at hg'; cases hg'
  · rw [hg i hi] at hg'; cases hg'
  · rw [hg i hi] at hg'; cases hg'
theorem PPlay.log {m : Nat} {w w' : PW} {k a e : Int} {works : List Work} (h : PPlay m w k a works w' e) : w'.log.length ≤ w.log.length + 1 := by
  cases h with
  | deliver h1 j ha hj w1 out hh => exact hh.len
  | fail h1 j ha hj w1 w2 out hh i hi hc =>
    have h2 := hh.len
    cases hc
    exact h2
  | crash h1 i ha hi _ hc => cases hc; exact Nat.le_succ _
  | _ => exact Nat.le_succ _
def kaW : ByteArray := ⟨#[97]⟩
def kbW : ByteArray := ⟨#[98]⟩
def aW : Work := ⟨1, [kaW], []⟩
def bW : Work := ⟨1, [kbW], []⟩
def xW : Txn := ⟨0, 1, 1⟩
def nd0 (i : Int) : PS := ⟨i, ⟨[], [], []⟩, []⟩
def nd1 (i : Int) (w : Work) (d : List Value) : PS := ⟨i, prepT ⟨[], [], []⟩ xW w d, []⟩
def tW (c1 c2 : List Value) : TX := beganT 0 [((0 : Int), (c1, aW)), (1, (c2, bW))]
def cW (t : TX) : CS := ⟨0, 1, 1, [((0, 1, 1), t)]⟩
def cN (i : Int) : CS := ⟨i, 1, 0, []⟩
def voteW (i : Int) : Message := { zMessage with From := i, To := 0, Kind := 2, Txn := xW, Yes := true }
def recV (w : Work) : Rec := ⟨2, xW, w, false, []⟩
theorem prW {w : Work} (hw : w = aW ∨ w = bW) : prepE ⟨[], [], []⟩ xW w = 0 := by
  unfold prepE
  rcases hw with rfl | rfl
  · rw [if_neg (by decide), if_neg (by rw [dupT_iff]; decide), if_pos (by decide)]
  · rw [if_neg (by decide), if_neg (by rw [dupT_iff]; decide), if_pos (by decide)]
theorem hearW {i : Int} {w : Work} {d : List Value} (hw : w = aW ∨ w = bW) : hearOut (nd0 i) (prepM 0 xW i w) = [voteW i] ∧ hearRec (nd0 i) (prepM 0 xW i w) = [recV w] ∧ hearS (nd0 i) (prepM 0 xW i w) d = nd1 i w d := by
  have hf : ¬ ¬ forMe (nd0 i) (prepM 0 xW i w) := fun h => h ⟨rfl, rfl⟩
  have h1 : (prepM 0 xW i w).Kind = 1 := rfl
  have hd : ¬ isD (nd0 i) (prepM 0 xW i w).Txn := by unfold isD; simp [nd0, mget]
  have hp : ¬ isP (nd0 i) (prepM 0 xW i w).Txn := by unfold isP; simp [nd0, mget]
  have h0 : prepE (nd0 i).t (prepM 0 xW i w).Txn (prepM 0 xW i w).Work = 0 := prW hw
  refine ⟨?_, ?_, ?_⟩
  · unfold hearOut
    rw [if_neg hf, if_pos h1, if_neg hd, decide_eq_true (p := _ ∨ _) (.inr h0)]; rfl
  · unfold hearRec
    rw [if_neg hf, if_pos h1, if_neg hd, if_neg hp, if_pos h0]; rfl
  · unfold hearS
    rw [if_neg hf, if_pos h1, if_neg hd, if_neg hp, if_pos h0]; rfl
theorem dl0 {n : Nat} {w w' : PW} {m : Message} {l : List Message} {e : Int} {works : List Work} (hn : w.net = m :: l) (h : PPlay n w 2 0 works w' e) : e = 0 ∧ ∃ w1 out, PHear { w with net := l } m w1 out ∧ w' = { w1 with net := sendL w1.net out } := by
  have hin : inN w.net 0 := by unfold inN; rw [hn, List.length_cons]; omega
  cases h with
  | bad h => exact absurd (.inr (.inr (.inr (.inl rfl)))) h
  | begin hk => omega
  | none hk h => exact absurd hin h
  | deliver hk j ha h w1 out hh =>
    obtain rfl : j = 0 := by omega
    have e1 : delM w.net 0 = l := by rw [hn]; rfl
    have e2 : w.net[0] = m := by simp only [hn]; rfl
    rw [e1, e2] at hh
    exact ⟨rfl, w1, out, hh, rfl⟩
  | fail hk => omega
  | drop hk => omega
  | copy hk => omega
  | full hk => omega
  | step hk => omega
  | tick hk => omega
  | crash hk => omega
theorem bg0 {n : Nat} {w' : PW} {e : Int} (h : PPlay n (newW 2) 1 0 [aW, bW] w' e) : e = 0 ∧ ∃ c1 c2, w' = ⟨[⟨nd0 0, cW (tW c1 c2)⟩, ⟨nd0 1, cN 1⟩], [prepM 0 xW 0 aW, prepM 0 xW 1 bW], 0, []⟩ := by
  have hl : (newW 2).ns.length = 2 := rfl
  cases h with
  | bad h => exact absurd (.inl ⟨rfl, ⟨Int.le_refl _, by rw [hl]; decide⟩, by rw [hl]; decide⟩) h
  | begin hk i ha h hn ws hw =>
    obtain rfl : i = 0 := by omega
    have hw2 : pq ws = [((0 : Int), aW), (1, bW)] := hw
    match ws, hw2 with
    | [(a, (c1, w1)), (b, (c2, w2))], h =>
      simp only [pq, List.map_cons, List.map_nil, List.cons.injEq, Prod.mk.injEq, and_true] at h
      obtain ⟨⟨rfl, rfl⟩, rfl, rfl⟩ := h
      exact ⟨rfl, c1, c2, rfl⟩
    | [], h => simp [pq] at h
    | [_], h => simp [pq] at h
    | _ :: _ :: _ :: _, h => simp [pq] at h
  | none hk => omega
  | deliver hk => omega
  | fail hk => omega
  | drop hk => omega
  | copy hk => omega
  | full hk => omega
  | step hk => omega
  | tick hk => omega
  | crash hk => omega
theorem hp0 {w w' : PW} {m : Message} {out : List Message} (k : toPart m) {i : Nat} (hm : m.To = i) (hi : i < w.ns.length) (h : PHear w m w' out) : ∃ cs, w' = { setN w i ⟨hearS w.ns[i].ps m cs, w.ns[i].cs⟩ with log := w.log ++ noteL m.To (hearRec w.ns[i].ps m) } ∧ out = hearOut w.ns[i].ps m := by
  cases h with
  | part k' j hj h cs =>
    obtain rfl : j = i := by omega
    exact ⟨cs, rfl, rfl⟩
  | coord k' => exact absurd k k'
theorem hc0 {w w' : PW} {m : Message} {out : List Message} (k : ¬ toPart m) {i : Nat} (hm : m.To = i) (hi : i < w.ns.length) (h : PHear w m w' out) : w' = { setN w i ⟨w.ns[i].ps, (cHear w.ns[i].cs m).s⟩ with log := w.log ++ noteL m.To (cHear w.ns[i].cs m).rc } ∧ out = (cHear w.ns[i].cs m).out := by
  cases h with
  | part k' => exact absurd k' k
  | coord k' j hj h =>
    obtain rfl : j = i := by omega
    exact ⟨rfl, rfl⟩
def W1 (t : TX) : PW := ⟨[⟨nd0 0, cW t⟩, ⟨nd0 1, cN 1⟩], [prepM 0 xW 0 aW, prepM 0 xW 1 bW], 0, []⟩
def W2 (t : TX) (d : List Value) : PW := ⟨[⟨nd1 0 aW d, cW t⟩, ⟨nd0 1, cN 1⟩], [prepM 0 xW 1 bW, voteW 0], 0, [⟨0, recV aW⟩]⟩
def W3 (t : TX) (d d' : List Value) : PW := ⟨[⟨nd1 0 aW d, cW t⟩, ⟨nd1 1 bW d', cN 1⟩], [voteW 0, voteW 1], 0, [⟨0, recV aW⟩, ⟨1, recV bW⟩]⟩
def W4 (t : TX) (d d' : List Value) : PW := ⟨[⟨nd1 0 aW d, cW (hear1 t 0)⟩, ⟨nd1 1 bW d', cN 1⟩], [voteW 1], 0, [⟨0, recV aW⟩, ⟨1, recV bW⟩]⟩
def W5 (t : TX) (d d' : List Value) : PW := ⟨[⟨nd1 0 aW d, cW (openT t)⟩, ⟨nd1 1 bW d', cN 1⟩], [decM 0 xW 0 true, decM 0 xW 1 true], 0, [⟨0, recV aW⟩, ⟨1, recV bW⟩, ⟨0, recC xW [0, 1]⟩]⟩
theorem dl1 {n : Nat} {t : TX} {w' : PW} {e : Int} {works : List Work} (h : PPlay n (W1 t) 2 0 works w' e) : e = 0 ∧ ∃ d, w' = W2 t d := by
  obtain ⟨he, w1, out, hh, rfl⟩ := dl0 (w := W1 t) rfl h
  obtain ⟨d, rfl, rfl⟩ := hp0 (.inl rfl) (i := 0) rfl (show _ < 2 by decide) hh
  obtain ⟨h1, h2, h3⟩ := hearW (i := 0) (d := d) (.inl rfl)
  refine ⟨he, d, ?_⟩
  show PW.mk [⟨hearS (nd0 0) (prepM 0 xW 0 aW) d, cW t⟩, ⟨nd0 1, cN 1⟩] (sendL [prepM 0 xW 1 bW] (hearOut (nd0 0) (prepM 0 xW 0 aW))) 0 ([] ++ noteL 0 (hearRec (nd0 0) (prepM 0 xW 0 aW))) = _
  rw [h1, h2, h3]
  rfl
theorem dl2 {n : Nat} {t : TX} {d : List Value} {w' : PW} {e : Int} {works : List Work} (h : PPlay n (W2 t d) 2 0 works w' e) : e = 0 ∧ ∃ d', w' = W3 t d d' := by
  obtain ⟨he, w1, out, hh, rfl⟩ := dl0 (w := W2 t d) rfl h
  obtain ⟨d', rfl, rfl⟩ := hp0 (.inl rfl) (i := 1) rfl (show _ < 2 by decide) hh
  obtain ⟨h1, h2, h3⟩ := hearW (i := 1) (d := d') (.inr rfl)
  refine ⟨he, d', ?_⟩
  show PW.mk [⟨nd1 0 aW d, cW t⟩, ⟨hearS (nd0 1) (prepM 0 xW 1 bW) d', cN 1⟩] (sendL [voteW 0] (hearOut (nd0 1) (prepM 0 xW 1 bW))) 0 ([⟨0, recV aW⟩] ++ noteL 1 (hearRec (nd0 1) (prepM 0 xW 1 bW))) = _
  rw [h1, h2, h3]
  rfl
theorem dl3 {n : Nat} {c1 c2 d d' : List Value} {w' : PW} {e : Int} {works : List Work} (h : PPlay n (W3 (tW c1 c2) d d') 2 0 works w' e) : e = 0 ∧ w' = W4 (tW c1 c2) d d' := by
  obtain ⟨he, w1, out, hh, rfl⟩ := dl0 (w := W3 (tW c1 c2) d d') rfl h
  obtain ⟨rfl, rfl⟩ := hc0 (by decide) (i := 0) rfl (show _ < 2 by decide) hh
  exact ⟨he, rfl⟩
theorem dl4 {n : Nat} {c1 c2 d d' : List Value} {w' : PW} {e : Int} {works : List Work} (h : PPlay n (W4 (tW c1 c2) d d') 2 0 works w' e) : e = 0 ∧ w' = W5 (tW c1 c2) d d' := by
  obtain ⟨he, w1, out, hh, rfl⟩ := dl0 (w := W4 (tW c1 c2) d d') rfl h
  obtain ⟨rfl, rfl⟩ := hc0 (by decide) (i := 0) rfl (show _ < 2 by decide) hh
  exact ⟨he, rfl⟩
def mvA : List Move := [⟨1, 0, [aW, bW]⟩, ⟨2, 0, []⟩, ⟨2, 0, []⟩, ⟨2, 0, []⟩, ⟨2, 0, []⟩]
def AtA : Nat → PW → Prop
  | 0, w => w = newW 2
  | 1, w => ∃ c1 c2, w = W1 (tW c1 c2)
  | 2, w => ∃ c1 c2 d, w = W2 (tW c1 c2) d
  | 3, w => ∃ c1 c2 d d', w = W3 (tW c1 c2) d d'
  | 4, w => ∃ c1 c2 d d', w = W4 (tW c1 c2) d d'
  | _, w => ∃ c1 c2 d d', w = W5 (tW c1 c2) d d'
theorem AtA.next {n j : Nat} {w w' : PW} {e : Int} (h : AtA j w) (hj : j < mvA.length) (hp : PPlay n w mvA[j].Kind mvA[j].A mvA[j].Works w' e) : e = 0 ∧ AtA (j + 1) w' := by
  match j, h, hj, hp with
  | 0, h, _, hp =>
    cases h
    obtain ⟨he, c1, c2, rfl⟩ := bg0 hp
    exact ⟨he, c1, c2, rfl⟩
  | 1, h, _, hp =>
    obtain ⟨c1, c2, rfl⟩ := h
    obtain ⟨he, d, rfl⟩ := dl1 hp
    exact ⟨he, c1, c2, d, rfl⟩
  | 2, h, _, hp =>
    obtain ⟨c1, c2, d, rfl⟩ := h
    obtain ⟨he, d', rfl⟩ := dl2 hp
    exact ⟨he, c1, c2, d, d', rfl⟩
  | 3, h, _, hp =>
    obtain ⟨c1, c2, d, d', rfl⟩ := h
    obtain ⟨he, rfl⟩ := dl3 hp
    exact ⟨he, c1, c2, d, d', rfl⟩
  | 4, h, _, hp =>
    obtain ⟨c1, c2, d, d', rfl⟩ := h
    obtain ⟨he, rfl⟩ := dl4 hp
    exact ⟨he, c1, c2, d, d', rfl⟩
  | j + 5, _, hj, _ => exact absurd hj (by simp [mvA])
theorem aW_ok : OkW aW ∧ OkW bW := by
  have h1 : fits (1 : Int) := by unfold fits; omega
  exact ⟨⟨by decide, by decide, h1, by decide⟩, ⟨by decide, by decide, h1, by decide⟩⟩
theorem mvA_ok {j : Nat} (hj : j < mvA.length) : ∀ x ∈ mvA[j].Works, OkW x := by
  have h : ∀ m ∈ mvA, ∀ x ∈ m.Works, OkW x := fun m hm x hx => by
    simp only [mvA, List.mem_cons, List.not_mem_nil, or_false] at hm
    rcases hm with rfl | rfl | rfl | rfl | rfl
    · simp only [List.mem_cons, List.not_mem_nil, or_false] at hx
      rcases hx with rfl | rfl
      · exact aW_ok.1
      · exact aW_ok.2
    all_goals cases hx
  exact h _ (List.getElem_mem hj)
end Go.Proofs.YtlflbkpmfhhikaaGreatDoor
