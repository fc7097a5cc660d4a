/- Log: the notes, their lists new. -/
import Derived.Test.YtpphdbnifbjfmaaGreatDoorJXI
import Derived.Test.YtpphdbnifbjfmaaGreatDoorJYG
set_option linter.unusedVariables false
set_option linter.unusedSimpArgs false
namespace Go.Proofs.YtpphdbnifbjfmaaGreatDoor
open Go Go.Sx Go.Proofs
theorem works0_mem : ∀ {l : List Work} {i : Int} {q : Int × Work}, q ∈ works0 i l → q.2 ∈ l
  | [], i, q, h => by cases h
  | w :: l, i, q, h => by
    unfold works0 at h
    split at h
    · rcases List.mem_cons.1 h with rfl | h
      · exact List.mem_cons_self ..
      · exact List.mem_cons_of_mem _ (works0_mem h)
    · exact List.mem_cons_of_mem _ (works0_mem h)
theorem set_self {w : PW} {i : Nat} (h : i < w.ns.length) : setN w i ⟨w.ns[i].ps, w.ns[i].cs⟩ = w := by
  unfold setN
  rw [show (⟨w.ns[i].ps, w.ns[i].cs⟩ : PN) = w.ns[i] from rfl, List.set_getElem_self]
theorem WInv.begin {n K : Nat} {B : List BT} {w : PW} (I : WInv n K B w) (hK : K < 300) {i : Nat} (h : i < w.ns.length) {works : List Work} (hwl : works.length ≤ w.ns.length) (hok : ∀ x ∈ works, OkW x) {ws : List (Int × CW)} (hw : pq ws = works0 0 works) {nt : List Message} (hn : ∀ g ∈ nt, g ∈ w.net ∨ g ∈ saidB w.ns[i].cs w.now ws) (hl : nt.length ≤ 64) :
    ∃ B', WInv n (K + 1) B' { setN w i ⟨w.ns[i].ps, beginS w.ns[i].cs w.now ws⟩ with net := nt } ∧ (B' = B ∨ (ws ≠ [] ∧ B' = ⟨newX w.ns[i].cs, works0 0 works⟩ :: B)) := by
  by_cases hne : ws = []
  · refine ⟨B, ?_, .inl rfl⟩
    subst hne
    have e1 : beginS w.ns[i].cs w.now [] = w.ns[i].cs := if_pos rfl
    have e2 : saidB w.ns[i].cs w.now [] = [] := if_pos rfl
    rw [e2] at hn
    rw [e1, set_self h]
    exact (I.less (fun g hg => (hn g hg).resolve_right fun h => by cases h) hl).more (Nat.le_succ K) hK
  · have hlen := I.len
    have hn4 := I.n4
    have hnow := I.now
    have hK3 := I.k3
    have hfn := I.life i h
    have IC := I.N.C i h
    have hfst : ws.map (·.1) = (works0 0 works).map (·.1) := by rw [← hw, pq_fst]
    have hnd : (ws.map (·.1)).Nodup := by
      rw [hfst, List.nodup_iff_pairwise_ne]
      exact works0_rise.imp fun h e => by omega
    have hf : ¬ knB B (newX w.ns[i].cs) := by
      rintro ⟨b, hb, hx⟩
      obtain ⟨j, hj, h1, h2, h3, h4⟩ := I.bx b hb
      have hji : j = i := by
        rw [hx] at h1
        have : (newX w.ns[i].cs).Node = w.ns[i].cs.node := rfl
        rw [this, (I.N.sh i h).2] at h1
        omega
      subst hji
      have h5 := h4 (by rw [hx]; rfl)
      rw [hx] at h5
      have h6 : (newX w.ns[j].cs).Count = w.ns[j].cs.count + 1 := rfl
      omega
    have T := begin_turn (now := w.now) I.N I.S h hne hnd hf
    rw [hw] at T
    have hC : CInv (K + 1) (beginS w.ns[i].cs w.now ws) := IC.begin hw (by omega) (by unfold fits; omega) (by omega)
    have hbl : (beginS w.ns[i].cs w.now ws).life = w.ns[i].cs.life ∧ (beginS w.ns[i].cs w.now ws).node = w.ns[i].cs.node ∧ (beginS w.ns[i].cs w.now ws).count = w.ns[i].cs.count + 1 := by unfold beginS; rw [if_neg hne]; exact ⟨rfl, rfl, rfl⟩
    have hN : NOk (K + 1) (setN w i ⟨w.ns[i].ps, beginS w.ns[i].cs w.now ws⟩) := I.N.set (Nat.le_succ K) h rfl (I.N.sh i h).1 (hbl.2.1.trans (I.N.sh i h).2) ((I.N.P i h).more (Nat.le_succ K)) hC
    have hlc : ∀ {j} (hj : j < (w.ns.set i ⟨w.ns[i].ps, beginS w.ns[i].cs w.now ws⟩).length), (w.ns.set i ⟨w.ns[i].ps, beginS w.ns[i].cs w.now ws⟩)[j].cs.life = (w.ns[j]'(by rw [List.length_set] at hj; exact hj)).cs.life ∧ (w.ns[j]'(by rw [List.length_set] at hj; exact hj)).cs.count ≤ (w.ns.set i ⟨w.ns[i].ps, beginS w.ns[i].cs w.now ws⟩)[j].cs.count := fun {j} hj => by
      rw [set_get]
      split
      · next e => subst e; exact ⟨hbl.1, by show w.ns[i].cs.count ≤ (beginS w.ns[i].cs w.now ws).count; rw [hbl.2.2]; omega⟩
      · exact ⟨rfl, Int.le_refl _⟩
    have hts : ∀ {j} (hj : j < (w.ns.set i ⟨w.ns[i].ps, beginS w.ns[i].cs w.now ws⟩).length) {k' t'}, mget k' (w.ns.set i ⟨w.ns[i].ps, beginS w.ns[i].cs w.now ws⟩)[j].cs.ts = some t' → (k' = (newX w.ns[i].cs).k ∧ t' = beganT w.now ws) ∨ mget k' (w.ns[j]'(by rw [List.length_set] at hj; exact hj)).cs.ts = some t' := fun {j} hj {k' t'} hg => by
      rw [set_get] at hg
      split at hg
      · next e =>
        subst e
        have hg' : mget k' (beginS w.ns[i].cs w.now ws).ts = some t' := hg
        unfold beginS at hg'
        rw [if_neg hne] at hg'
        have hg2 : mget k' (mset (newX w.ns[i].cs).k (beganT w.now ws) w.ns[i].cs.ts) = some t' := hg'
        rw [mget_mset] at hg2
        split at hg2
        · next e => cases hg2; exact .inl ⟨e, rfl⟩
        · exact .inr hg2
      · exact .inr hg
    have hH : HdOk (⟨newX w.ns[i].cs, works0 0 works⟩ :: B) (setN w i ⟨w.ns[i].ps, beginS w.ns[i].cs w.now ws⟩) := I.hd.more h rfl T.2.1 fun key r hr => .inl hr
    refine ⟨⟨newX w.ns[i].cs, works0 0 works⟩ :: B, ⟨(List.length_set ..).trans I.len, I.n4, ⟨hN.sh, hN.P, hN.C⟩, fun j hj => ?_, by have := I.bl; simp only [List.length_cons]; omega, by omega, fun b hb => ?_, fun b hb => ?_, T.1, fun j hj k' t hg ho => ?_, fun j hj k' t hg ho => ?_, hH, fun g hg => ?_, hl, I.now⟩, .inr ⟨hne, rfl⟩⟩
    · show 1 ≤ (w.ns.set i ⟨w.ns[i].ps, beginS w.ns[i].cs w.now ws⟩)[j].cs.life ∧ (w.ns.set i ⟨w.ns[i].ps, beginS w.ns[i].cs w.now ws⟩)[j].cs.life ≤ ((K + 1 : Nat) : Int) + 1
      rw [(hlc hj).1]
      have := I.life j (by rw [show (setN w i ⟨w.ns[i].ps, beginS w.ns[i].cs w.now ws⟩).ns = w.ns.set i ⟨w.ns[i].ps, beginS w.ns[i].cs w.now ws⟩ from rfl, List.length_set] at hj; exact hj)
      omega
    · rcases List.mem_cons.1 hb with rfl | hb
      · have hj' : i < (w.ns.set i ⟨w.ns[i].ps, beginS w.ns[i].cs w.now ws⟩).length := by rw [List.length_set]; exact h
        refine ⟨i, hj', (I.N.sh i h).2, ⟨IC.fn, IC.fl, ?_⟩, ?_⟩
        · show fits (w.ns[i].cs.count + 1)
          have := IC.c0; unfold fits; omega
        · show (newX w.ns[i].cs).Life ≤ (w.ns.set i ⟨w.ns[i].ps, beginS w.ns[i].cs w.now ws⟩)[i].cs.life ∧ ((newX w.ns[i].cs).Life = (w.ns.set i ⟨w.ns[i].ps, beginS w.ns[i].cs w.now ws⟩)[i].cs.life → (newX w.ns[i].cs).Count ≤ (w.ns.set i ⟨w.ns[i].ps, beginS w.ns[i].cs w.now ws⟩)[i].cs.count)
          rw [List.getElem_set_self]
          show w.ns[i].cs.life ≤ (beginS w.ns[i].cs w.now ws).life ∧ (w.ns[i].cs.life = (beginS w.ns[i].cs w.now ws).life → w.ns[i].cs.count + 1 ≤ (beginS w.ns[i].cs w.now ws).count)
          rw [hbl.1, hbl.2.2]
          exact ⟨Int.le_refl _, fun _ => Int.le_refl _⟩
      · obtain ⟨j, hj, h1, h2, h3, h4⟩ := I.bx b hb
        have hj' : j < (w.ns.set i ⟨w.ns[i].ps, beginS w.ns[i].cs w.now ws⟩).length := by rw [List.length_set]; exact hj
        refine ⟨j, hj', h1, h2, ?_⟩
        show b.x.Life ≤ (w.ns.set i ⟨w.ns[i].ps, beginS w.ns[i].cs w.now ws⟩)[j].cs.life ∧ (b.x.Life = (w.ns.set i ⟨w.ns[i].ps, beginS w.ns[i].cs w.now ws⟩)[j].cs.life → b.x.Count ≤ (w.ns.set i ⟨w.ns[i].ps, beginS w.ns[i].cs w.now ws⟩)[j].cs.count)
        rw [(hlc hj').1]
        exact ⟨h3, fun e => Int.le_trans (h4 e) (hlc hj').2⟩
    · rcases List.mem_cons.1 hb with rfl | hb
      · refine ⟨works0_rise, fun q hq => ?_⟩
        have := works0_lt (i := 0) (Int.le_refl _) q hq
        exact ⟨this.1, by omega, hok _ (works0_mem hq)⟩
      · exact I.bw b hb
    · rcases hts hj hg with ⟨rfl, rfl⟩ | hg
      · exact ⟨_, List.mem_cons_self .., (toTx_k _).symm, hw⟩
      · obtain ⟨b, hb, e1, e2⟩ := I.W j _ k' t hg ho
        exact ⟨b, List.mem_cons_of_mem _ hb, e1, e2⟩
    · rcases hts hj hg with ⟨rfl, rfl⟩ | hg
      · exact Int.le_refl _
      · exact I.bg j _ k' t hg ho
    · rcases hn g hg with hg | hg
      · exact ⟨(I.J g hg).1.next T.2.1, (I.J g hg).2⟩
      · exact T.2.2 g hg
theorem WInv.quiet {n K m : Nat} {B : List BT} {w w' : PW} {k a e : Int} {works : List Work} (I : WInv n K B w) (hk : k ≠ 1 ∧ k ≠ 7 ∧ k ≠ 8) (h : PPlay m w k a works w' e) : WInv n K B w' := by
  cases h with
  | bad => exact I
  | begin h1 => exact absurd h1 hk.1
  | none => exact I
  | deliver h1 j ha hj w1 out hh =>
    have I1 : WInv n K B { w with net := delM w.net j } := I.less (fun g hg => mem_delM hg) (Nat.le_trans delM_len I.nl)
    have hnet : w1.net = delM w.net j := by cases hh <;> rfl
    exact I1.hear (I.J _ (List.getElem_mem hj)) hh (fun g hg => by rw [hnet] at hg; exact mem_sendL hg) (sendL_len (by rw [hnet]; exact I1.nl))
  | fail h1 => exact absurd h1 hk.2.2
  | drop h1 j ha hj => exact I.less (fun g hg => mem_delM hg) (Nat.le_trans delM_len I.nl)
  | copy h1 j ha hj hf => exact I.less (fun g hg => by rcases List.mem_append.1 hg with hg | hg; exact hg; rw [List.mem_singleton.1 hg]; exact List.getElem_mem hj) (by rw [List.length_append]; simp only [List.length_singleton]; omega)
  | full => exact I
  | step h1 i ha hi => exact I.step hi (fun g hg => by rcases mem_sendL hg with hg | hg; exact (mem_sendL hg).imp id (List.mem_append_left _); exact .inr (List.mem_append_right _ hg)) (sendL_len (sendL_len I.nl))
  | tick h1 h0 h2 => exact I.tick h0 h2
  | crash h1 => exact absurd h1 hk.2.1
theorem WInv.play {n K m : Nat} {B : List BT} {w w' : PW} {k a e : Int} {works : List Work} (I : WInv n K B w) (hK : K < 300) (hok : ∀ x ∈ works, OkW x) (h : PPlay m w k a works w' e) : ∃ B', WInv n (K + 1) B' w' ∧ (B' = B ∨ ((k = 1 ∧ e = 0) ∧ ∃ b, B' = b :: B ∧ b.ws = works0 0 works)) := by
  by_cases hk : k ≠ 1 ∧ k ≠ 7 ∧ k ≠ 8
  · exact ⟨B, (I.quiet hk h).more (Nat.le_succ K) hK, .inl rfl⟩
  cases h with
  | bad => exact ⟨B, I.more (Nat.le_succ K) hK, .inl rfl⟩
  | begin h1 i ha hi hn ws hw =>
    obtain ⟨B', h2, h3⟩ := I.begin hK hi hn hok hw (fun g hg => mem_sendL hg) (sendL_len I.nl)
    refine ⟨B', h2, h3.imp id fun ⟨hne, hb⟩ => ⟨⟨h1, if_neg hne⟩, _, hb, rfl⟩⟩
  | none => exact ⟨B, I.more (Nat.le_succ K) hK, .inl rfl⟩
  | deliver h1 => omega
  | fail h1 j ha hj w1 w2 out hh i hi hc =>
    have I1 : WInv n K B { w with net := delM w.net j } := I.less (fun g hg => mem_delM hg) (Nat.le_trans delM_len I.nl)
    have hnet : w1.net = delM w.net j := by cases hh <;> rfl
    have I2 : WInv n K B { w1 with net := w1.net } := I1.hear (nt := w1.net) (I.J _ (List.getElem_mem hj)) hh (fun g hg => by rw [hnet] at hg; exact .inl hg) (by rw [hnet]; exact I1.nl)
    exact ⟨B, WInv.crash (w := w1) I2 hK hc, .inl rfl⟩
  | drop h1 => omega
  | copy h1 => omega
  | full h1 => omega
  | step h1 => omega
  | tick h1 => omega
  | crash h1 i ha hi _ hc => exact ⟨B, I.crash hK hc, .inl rfl⟩
def newN (i : Nat) : PN := ⟨⟨i, ⟨[], [], []⟩, []⟩, ⟨i, 1, 0, []⟩⟩
def newW (n : Nat) : PW := ⟨(List.range n).map newN, [], 0, []⟩
theorem winv0 {n : Nat} (h : 1 ≤ n ∧ n ≤ 4) : WInv n 0 [] (newW n) := by
  have hg : ∀ i (hi : i < (newW n).ns.length), (newW n).ns[i] = newN i := fun i hi => by
    simp [newW]
  have hl : (newW n).ns.length = n := by show ((List.range n).map newN).length = n; rw [List.length_map, List.length_range]
  have hfi : ∀ i (hi : i < (newW n).ns.length), fits (i : Int) := fun i hi => by rw [hl] at hi; unfold fits; omega
  have ha : absW (newW n) = ⟨fun _ => none, fun _ _ => none, fun _ _ => False, []⟩ := by
    refine AS.eq (fun x => ?_) (fun p x => ?_) (fun p x => ?_) rfl
    · show (nAt (newW n) x.Node).bind _ = none
      cases hn : nAt (newW n) x.Node with
      | none => rfl
      | some q =>
        obtain ⟨i, _, hi, rfl⟩ := nAt_some.1 hn
        rw [hg i hi]; rfl
    · show (nAt (newW n) p).bind _ = none
      cases hn : nAt (newW n) p with
      | none => rfl
      | some q =>
        obtain ⟨i, _, hi, rfl⟩ := nAt_some.1 hn
        rw [hg i hi]; rfl
    · constructor
      · rintro ⟨q, hn, hd⟩
        obtain ⟨i, _, hi, rfl⟩ := nAt_some.1 hn
        rw [hg i hi] at hd; cases hd
      · exact fun h => h.elim
  refine ⟨hl, h, ⟨fun i hi => ?_, fun i hi => ?_, fun i hi => ?_⟩, fun i hi => ?_, by simp, by omega, fun b hb => (by cases hb), fun b hb => (by cases hb), by rw [ha]; exact si0, fun i hi k t hg' => ?_, fun i hi k t hg' => ?_, fun i hi k r hg' => ?_, fun m hm => (by cases hm), by simp [newW], ⟨Int.le_refl 0, by show (0 : Int) ≤ _; omega⟩⟩
  · rw [hg i hi]; exact ⟨rfl, rfl⟩
  · rw [hg i hi]; exact pinv0 (hfi i hi)
  · rw [hg i hi]; exact cinv0 (hfi i hi) (by unfold fits; omega)
  · rw [hg i hi]; show (1 : Int) ≤ 1 ∧ (1 : Int) ≤ ((0 : Nat) : Int) + 1; omega
  · rw [hg i hi] at hg'; cases hg'
  · rw [hg i hi] at hg'; cases hg'
  · rw [hg i hi] at hg'; cases hg'
theorem PPlay.log {m : Nat} {w w' : PW} {k a e : Int} {works : List Work} (h : PPlay m w k a works w' e) : w'.log.length ≤ w.log.length + 1 := by
  cases h with
  | deliver h1 j ha hj w1 out hh => exact hh.len
  | fail h1 j ha hj w1 w2 out hh i hi hc =>
    have h2 := hh.len
    cases hc
    exact h2
  | crash h1 i ha hi _ hc => cases hc; exact Nat.le_succ _
  | _ => exact Nat.le_succ _
theorem PPlay.more {m m' : Nat} {w w' : PW} {k a e : Int} {works : List Work} (h : PPlay m w k a works w' e) (hm : m ≤ m') : PPlay m' w k a works w' e := by
  have hc : ∀ {w w' : PW} {i : Nat}, PCrash m w i w' → PCrash m' w i w' := fun h => by
    cases h with
    | mk h s' hs hI => exact .mk h s' hs (hI.more hm)
  cases h with
  | bad h => exact .bad h
  | begin hk i ha h hn ws hw => exact .begin hk i ha h hn ws hw
  | none hk h => exact .none hk h
  | deliver hk j ha h w' out hh => exact .deliver hk j ha h w' out hh
  | fail hk j ha h w' w'' out hh i hi h1 => exact .fail hk j ha h w' _ out hh i hi (hc h1)
  | drop hk j ha h => exact .drop hk j ha h
  | copy hk j ha h hf => exact .copy hk j ha h hf
  | full hk j ha h hf => exact .full hk j ha h hf
  | step hk i ha h => exact .step hk i ha h
  | tick hk h0 h => exact .tick hk h0 h
  | crash hk i ha h w' h1 => exact .crash hk i ha h _ (hc h1)
theorem wplay_spec {W0 : World} {H : Heap} {p n K : Nat} {s : Value} {B : List BT} {w : PW} {m : Move} (hP : PkH H) (I : WInv n K B w) (hll : w.log.length ≤ 800000000) (hs : SlB rWork 3 56 H s m.Works) (hk : fits m.Kind) (ha : fits m.A) :
    Ct Tryz.prog 6 #[ptrC p, .agg (m.cv s).toArray] W0 H [worldO H p w] (fun r H' B => PlayQ (K + 1) H' p w m r B) := by
  have KW : WOk K w := I.ok (by omega)
  have hn := I.k3
  have hnow := I.now
  have hlen := I.len
  have hn4 := I.n4
  have up : ∀ {r H' B}, PlayQ K H' p w m r B → PlayQ (K + 1) H' p w m r B := fun ⟨w', e, h, h2⟩ => ⟨w', e, h.more (Nat.le_succ K), h2⟩
  by_cases hb : okMv w m.Kind m.A m.Works.length
  case neg => exact (play_bad (n := K + 1) hs hnow hk ha hb)
  have hms : ∀ g ∈ w.net, OkM g ∧ isNode w g.To := fun g hg => I.msg (I.J g hg)
  rcases hb with ⟨k1, hi, hwl⟩ | ⟨k5 | k7, hi⟩ | ⟨k6, h0, h1⟩ | k2 | k3 | k4 | k8
  · obtain ⟨i, hai⟩ : ∃ i : Nat, m.A = i := ⟨m.A.toNat, by unfold isNode at hi; omega⟩
    exact (play_begin KW hs hnow hk ha k1 hai (by unfold isNode at hi; omega) hwl (by omega)).mono fun r H' B _ h => up h
  · obtain ⟨i, hai⟩ : ∃ i : Nat, m.A = i := ⟨m.A.toNat, by unfold isNode at hi; omega⟩
    exact (play_step KW hs hnow hk ha k5 hai (by unfold isNode at hi; omega)).mono fun r H' B _ h => up h
  · obtain ⟨i, hai⟩ : ∃ i : Nat, m.A = i := ⟨m.A.toNat, by unfold isNode at hi; omega⟩
    exact (play_crash KW hs hnow hk ha k7 hai (by unfold isNode at hi; omega)).mono fun r H' B _ h => up h
  · exact play_tick hs hnow hk ha k6 h0 h1
  · exact play_deliver hP KW (by omega) (by omega) hms hs hnow hk ha k2
  · exact play_drop hs hnow hk ha k3
  · exact play_copy hs hnow hk ha k4
  · exact play_fail hP KW (by omega) (by omega) hms hs hnow hk ha k8
theorem bigL_end {ι : Type} {A : ι → HProp} {l : List ι} {x : ι} {L : List HProp} : Sub (A x :: bigL A l :: L) (bigL A (l ++ [x]) :: L) := by
  have h := bigL_in (A := A) (l1 := l) (x := x) (l2 := []) (L := L)
  rwa [List.append_nil] at h
def NewQ (nodes : Int) (r : Value) (H' : Heap) (B : List HProp) : Prop :=
  (¬ (1 ≤ nodes ∧ nodes ≤ 4) ∧ r = .tuple #[.pointer none, I 1] ∧ B = []) ∨ (∃ (n : Nat) (p : Nat), nodes = n ∧ (1 ≤ n ∧ n ≤ 4) ∧ r = .tuple #[ptrC p, I 0] ∧ B = [worldO H' p (newW n)])
set_option maxHeartbeats 8000000 in
set_option maxRecDepth 20000 in
theorem wnew_spec {W0 : World} {H : Heap} {nodes : Int} :
    Ct Tryz.prog 4 #[I nodes] W0 H [] (fun r H' B => NewQ nodes r H' B) := by
  refine Ct.go (vs := [I nodes]) fun R => ?_
  by_cases h1 : nodes < 1
  · refine walk ?_
    refine fin0 ?_
    exact .inl ⟨by omega, rfl, rfl⟩
  by_cases h2 : 4 < nodes
  · refine walk ?_
    refine fin0 ?_
    exact .inl ⟨by omega, rfl, rfl⟩
  obtain ⟨n, rfl⟩ : ∃ n : Nat, nodes = n := ⟨nodes.toNat, by omega⟩
  refine walk ?_
  refine ops_call (vs := []) rfl rfl (Net.new_spec (W0 := W0) (H := H)) fun r1 H1 B hl1 ⟨eB, eH⟩ => ?_
  subst eB eH
  refine ops_know .here (fun h => Net.netO_ptr) fun ⟨nb, e⟩ => ?_
  subst e
  refine walk ?_
  refine ops_box rfl rfl fun p _ => ?_
  refine walk ?_
  have hrs : ∀ k, (List.range (k + 1)).map newN = (List.range k).map newN ++ [newN k] := fun k => by rw [List.range_succ, List.map_append]; rfl
  refine ex_loop (σ := Nat × List NE × (Option Addr × Nat)) (fun u => u.1 ≤ n ∧ u.2.1.map NE.q = (List.range u.1).map newN) (fun u => [(4, ptrC p), (15, I n), (16, I u.1)]) (fun _ => H1)
    (fun u => wRow p (.slice u.2.2.1 u.2.1.length u.2.2.2) nb 0 nilS :: wNs (.slice u.2.2.1 u.2.1.length u.2.2.2) u.2.1 :: bigL (ndP H1) u.2.1 :: bigL (ndC H1) u.2.1 :: Net.netO H1 (ptrC nb) [] :: R) (fun u => n - u.1) (0, [], none, 0) ⟨Nat.zero_le _, rfl⟩ (hs0 := ?hs0) fun ⟨k, es, d, e⟩ ⟨hk0, hes⟩ K hL => ?_
  case hs0 =>
    refine Sub.trans (B := wRow p nilS nb 0 nilS :: Net.netO H1 (ptrC nb) [] :: R) subA ?_
    refine Sub.trans (Sub.trans (Sub.trans bigL_nil (Sub.cons bigL_nil)) (Sub.cons (Sub.cons ownS_nil))) (show Sub (bigL (ndC H1) [] :: bigL (ndP H1) [] :: wNs nilS [] :: wRow p nilS nb 0 nilS :: Net.netO H1 (ptrC nb) [] :: R) _ from ?_)
    exact subA
  simp only at hk0 hes
  dsimp only
  have hel : es.length = k := by have := congrArg List.length hes; simpa using this
  refine walk ?_
  refine ex_if rfl (fun hk => ?_) (fun hk => ?_)
  · have hk1 : k < n := by omega
    have hfk : fits (k : Int) := by unfold fits; omega
    refine walk ?_
    refine ex_any 12 [wRow p (.slice d es.length e) nb 0 nilS] ?_
    refine stepY 0 ?_; refine stepY 1 ?_; refine stepY 2 ?_; refine stepY 3 ?_; refine stepY 4 ?_; refine stepY 5 ?_; refine stepY 7 ?_
    refine gny_call 6 rfl rfl rfl (pnew_spec (W0 := W0) (H := H1) (sh := (k : Int)) hfk) fun r2 H2 B hl2 ⟨pp, er, eB, eH⟩ => ?_
    subst er eB eH
    refine ⟨subA, ?_⟩
    refine gny_call 8 rfl rfl rfl (cnew_spec (W0 := W0) (H := H2) (node := (k : Int)) (life := 1)) fun r3 H3 B hl3 ⟨cp, er, eB, eH⟩ => ?_
    subst er eB eH
    refine ⟨subA, ?_⟩
    refine stepY 9 ?_
    refine any_app1 (y := (⟨pp, cp, newN k⟩ : NE)) 10 11 rfl rfl rfl rfl (by rw [hel]; simp only [cap47]; omega) (hl := empty_le _) fun d3 e3 => ⟨subA, ?_⟩
    refine any_rest rfl ?_
    refine walk ?_
    have hl3 : es.length + 1 = (es ++ [(⟨pp, cp, newN k⟩ : NE)]).length := by simp
    rw [hl3]
    refine out_next hL (k + 1, es ++ [⟨pp, cp, newN k⟩], d3, e3) ⟨by simp only; omega, by simp only; rw [List.map_append, hes, hrs]; rfl⟩ (hs := ?_)
    refine Sub.trans (B := ownS rNE 3 24 66 H3 (.slice d3 (es ++ [(⟨pp, cp, newN k⟩ : NE)]).length e3) (es ++ [⟨pp, cp, newN k⟩]) :: ndC H3 ⟨pp, cp, newN k⟩ :: bigL (ndC H3) es :: ndP H3 ⟨pp, cp, newN k⟩ :: bigL (ndP H3) es :: wRow p (.slice d3 (es ++ [(⟨pp, cp, newN k⟩ : NE)]).length e3) nb 0 nilS :: Net.netO H3 (ptrC nb) [] :: R) (by rw [show ndC H3 ⟨pp, cp, newN k⟩ = coordO H3 cp ⟨k, 1, 0, []⟩ from rfl, show ndP H3 ⟨pp, cp, newN k⟩ = partO H3 pp ⟨k, ⟨[], [], []⟩, []⟩ from rfl]; exact subA) ?_
    refine Sub.trans (sub_flat H3 Heap.empty) ?_
    refine Sub.trans (Sub.cons (Sub.trans bigL_end (Sub.cons bigL_end))) ?_
    dsimp only
    exact subA
  · clear hL
    obtain rfl : k = n := by omega
    refine walk ?_
    refine finB [worldO H1 p (newW k)] ?_ (hs := ?_)
    · exact .inr ⟨k, p, rfl, by omega, rfl, rfl⟩
    · refine Sub.trans (B := wRow p (.slice d es.length e) nb 0 nilS :: wNs (.slice d es.length e) es :: bigL (ndP H1) es :: bigL (ndC H1) es :: Net.netO H1 (ptrC nb) [] :: R) subA ?_
      refine Sub.trans (Sub.cons (Sub.cons (Sub.cons (Sub.cons (Sub.cons (ownS_nil (R := rPactNote) (sz := 10) (w := 128) (T := 50) (H := H1) (base := none))))))) ?_
      exact world_fold (w := newW k) (nv := .slice d es.length e) (nb := nb) (lv := nilS) hes.symm
end Go.Proofs.YtpphdbnifbjfmaaGreatDoor
namespace Go.Proofs.YtpphdbnifbjfmaaGreatDoor
open Go Go.Sx Go.Proofs
end Go.Proofs.YtpphdbnifbjfmaaGreatDoor
namespace Go.Proofs.YtpphdbnifbjfmaaGreatDoor
open Go Go.Sx Go.Proofs
theorem set_mid {p c q : List Value} {o k : Nat} {v : Value} (hp : p.length = o) (hk : k < c.length) : (p ++ c ++ q).set (o + k) v = p ++ c.set k v ++ q := by
  rw [List.append_assoc, List.set_append_right _ _ (by omega), hp, Nat.add_sub_cancel_left, List.set_append_left _ _ hk, ← List.append_assoc]
theorem get_mid {p c q : List Value} {o k : Nat} {v : Value} (hp : p.length = o) (hk : c[k]? = some v) : (p ++ c ++ q)[o + k]? = some v := by
  have hl : k < c.length := (List.getElem?_eq_some_iff.1 hk).1
  rw [List.append_assoc, List.getElem?_append_right (by omega), hp, Nat.add_sub_cancel_left, List.getElem?_append_left hl, hk]
theorem cut_mid {cs c r : List Value} {o : Nat} (h : cs.drop o = c ++ r) (hc : 0 < c.length) : ∃ p, cs = p ++ c ++ r ∧ p.length = o := by
  refine ⟨cs.take o, by rw [List.append_assoc, ← h, List.take_append_drop], ?_⟩
  have h2 : (cs.drop o).length = (c ++ r).length := by rw [h]
  rw [List.length_drop, List.length_append] at h2
  rw [List.length_take]; omega
theorem cloneN_spec {W0 : World} {H : Heap} {b0 : Option Addr} {c0 : Nat} {l : List PactNote} (hb : l.length * 128 ≤ cap47) :
    Ct Tryz.prog 25 #[.slice b0 l.length c0] W0 H [wLog H (.slice b0 l.length c0) l] (fun r H' B => B = [wLog H r l, wLog H (.slice b0 l.length c0) l] ∧ H' = H) := by
  refine Ct.go fun R => ?_
  refine walk ?_
  refine ex_if rfl (fun h => ?_) (fun h => ?_)
  · subst h
    refine walk ?_
    refine out_know .here (p := l.length = 0) (fun h ho => ?_) fun h0 => ?_
    · obtain ⟨cs, _, ho⟩ := ho
      obtain ⟨_, ho⟩ := ho
      rcases ho with ⟨h, _⟩ | ⟨b, cap, sp, h, _⟩
      · exact h
      · cases h
    obtain rfl : l = [] := List.eq_nil_of_length_eq_zero h0
    refine finB [wLog H (.slice none 0 0) [], wLog H (.slice none 0 c0) []] ?_ (hs := ownS_nil)
    exact ⟨rfl, rfl⟩
  · refine walk ?_
    refine ops_mk0 (w := 128) rPactNote rfl fun b => ?_
    refine walk ?_
    refine ops_appSO rfl rfl (by simpa using hb) fun base cap => ?_
    refine walk ?_
    refine finB [wLog H (.slice base ([].length + l.length) cap) ([] ++ l), wLog H (.slice b0 l.length c0) l] ?_
    exact ⟨rfl, rfl⟩
set_option maxHeartbeats 16000000 in
set_option maxRecDepth 20000 in
theorem wlog_spec {W0 : World} {H : Heap} {p : Nat} {w : PW} (hb : w.log.length * 128 ≤ cap47) :
    Ct Tryz.prog 8 #[ptrC p] W0 H [worldO H p w] (fun r H' B => B = [wLog H' r w.log, worldO H' p w]) := by
  refine Ct.go (vs := [ptrC p]) fun R => ?_
  refine ex_open (A := worldO H p w) (σ := Value × Nat × Value × List NE) (B := fun a => [wRow p a.1 a.2.1 (PW.now w) a.2.2.1, wNs a.1 a.2.2.2, bigL (ndP H) a.2.2.2, bigL (ndC H) a.2.2.2, Net.netO H (ptrC a.2.1) (PW.net w), wLog H a.2.2.1 (PW.log w)]) (p := fun a => PW.ns w = a.2.2.2.map NE.q) (by repeat (first | exact Has.here | apply Has.there)) (fun h ⟨nv, nb, lv, es, hb, hk⟩ => ⟨(nv, nb, lv, es), hk, hb⟩) fun ⟨nv, nb, lv, es⟩ hns => ?_
  dsimp only at hns ⊢
  refine ex_shape lv fun lb lc e _ _ _ => ?_
  subst e
  obtain ⟨l, hll⟩ : ∃ l, w.log = l := ⟨_, rfl⟩
  have hwf : ∀ H' : Heap, H.le H' → Sub (wRow p nv nb w.now (.slice lb l.length lc) :: wNs nv es :: bigL (ndP H) es :: bigL (ndC H) es :: Net.netO H (ptrC nb) w.net :: wLog H (.slice lb l.length lc) l :: R) (worldO H' p w :: R) := fun H' hl => by
    rw [← hll]; exact world_shut hns hl hl hl hl
  rw [hll] at hb ⊢
  refine walk ?_
  refine ops_call rfl rfl (cloneN_spec (W0 := W0) (H := H) (b0 := lb) (c0 := lc) hb) fun r1 H1 B hl1 ⟨eB, eH⟩ => ?_
  subst eB eH
  refine ops_shape r1 fun b1 c1 e k1 k2 k3 => ?_
  subst e
  refine walk ?_
  refine ex_loop (σ := Nat × Heap) (fun u => u.1 ≤ l.length ∧ H1.le u.2) (fun u => [(3, .slice b1 l.length c1), (12, I l.length), (13, I u.1)]) (fun u => u.2)
    (fun u => wLog u.2 (.slice b1 l.length c1) l :: wRow p nv nb w.now (.slice lb l.length lc) :: wNs nv es :: bigL (ndP H1) es :: bigL (ndC H1) es :: Net.netO H1 (ptrC nb) w.net :: wLog H1 (.slice lb l.length lc) l :: R) (fun u => l.length - u.1) (0, H1) ⟨Nat.zero_le _, .refl _⟩ fun ⟨j, HK⟩ ⟨hj0, hlK⟩ K hL => ?_
  simp only at hj0 hlK
  dsimp only
  by_cases hj1 : j < l.length
  · have hj2 : (j : Int) < (l.length : Int) := by omega
    refine walk ?_
    refine ops_rowS (.slice b1 l.length c1) (Nat.lt_of_le_of_lt (Nat.zero_le j) hj1) fun b2 cap2 cs sp e q1 q2 q3 q4 q5 q6 => ?_
    cases e
    obtain ⟨c, rr, hcr, hcc⟩ := q5.get hj1
    have hcl : c.length = 10 := RdOk.len hcc
    obtain ⟨pp, rfl, hpl⟩ := cut_mid hcr (by rw [hcl]; decide)
    rw [List.append_assoc (pp ++ c)]
    obtain ⟨qq, hqq⟩ : ∃ qq, rr ++ sp = qq := ⟨_, rfl⟩
    rw [hqq]
    obtain ⟨s1, s2, s3, rfl, f0, f1, f2, f3, f4, f5, g1, g2, g3⟩ := hcc
    obtain ⟨x1, y1, rfl, _, _⟩ := g1.1.shape
    obtain ⟨x2, y2, rfl, _, _⟩ := g2.1.shape
    obtain ⟨x3, y3, rfl, _, _⟩ := g3.1.shape
    obtain ⟨x, hx⟩ : ∃ x, l[j] = x := ⟨_, rfl⟩
    rw [hx] at f0 f1 f2 f3 f4 f5 g1 g2 g3 ⊢
    refine walk ?_
    refine ex_z 31 ?_
    refine z_take 1 rfl rfl ?_
    refine z_take 2 rfl rfl ?_
    refine z_any 20 [row b2 50 (pp ++ PactNote.cv x (.slice x1 x.Rec.Work.Take.length y1) (.slice x2 x.Rec.Work.Drop.length y2) (.slice x3 x.Rec.Parts.length y3) ++ qq)] ?_
    refine stepY 0 ?_; refine stepY 3 ?_; refine stepY 4 ?_; refine stepY 5 ?_; refine stepY 6 ?_; refine stepY 9 ?_; refine stepY 10 ?_; refine stepY 11 ?_; refine stepY 12 ?_; refine stepY 15 ?_; refine stepY 16 ?_; refine stepY 17 ?_
    refine gny_ld 7 rfl rfl rfl (by rw [Nat.zero_add]; exact get_mid (k := 6) hpl rfl) ?_
    refine gny_ld 13 rfl rfl rfl (by rw [Nat.zero_add]; exact get_mid (k := 7) hpl rfl) ?_
    refine gny_ld 18 rfl rfl rfl (by rw [Nat.zero_add]; exact get_mid (k := 9) hpl rfl) ?_
    refine gny_call 8 rfl rfl rfl (cloneT_spec (W0 := W0) (H := HK) g1) fun r8 H8 B hl8 ⟨eB, eH⟩ => ?_
    subst eB eH
    refine ⟨subA, ?_⟩
    refine gny_call 14 rfl rfl rfl (cloneT_spec (W0 := W0) (H := H8) g2) fun r14 H9 B hl9 ⟨eB, eH⟩ => ?_
    subst eB eH
    refine ⟨subA, ?_⟩
    refine gny_call 19 rfl rfl rfl (cloneI_spec (W0 := W0) (H := H9) g3) fun r19 H10 B hl10 ⟨eB, eH⟩ => ?_
    subst eB eH
    refine ⟨subA, ?_⟩
    refine any_stage 31 [] ?_
    refine any_freeze r8 fun H2 hl2 h1 => ?_
    refine any_freeze r14 fun H3 hl3 h2 => ?_
    refine any_freeze r19 fun H4 hl4 h3 => ?_
    obtain ⟨u1, v1, rfl, _, _⟩ := h1.1.shape
    obtain ⟨u2, v2, rfl, _, _⟩ := h2.1.shape
    obtain ⟨u3, v3, rfl, _, _⟩ := h3.1.shape
    have hcw : ∀ v1 v2 v3, (PactNote.cv x v1 v2 v3).length = 10 := fun _ _ _ => rfl
    refine stepY 20 ?_; refine stepY 21 ?_; refine stepY 22 ?_
    refine any_sta 23 (cs' := pp ++ PactNote.cv x (.slice u1 x.Rec.Work.Take.length v1) (.slice x2 x.Rec.Work.Drop.length y2) (.slice x3 x.Rec.Parts.length y3) ++ qq) rfl rfl rfl rfl (by simp only [Nat.zero_add, List.length_append, hcw, hpl, List.length_singleton]; omega) (by rw [Nat.zero_add, set_cut (by simp only [List.length_append, hcw, hpl]; omega)]; exact set_mid (k := 6) hpl (by rw [hcw]; decide)) ⟨subA, ?_⟩
    refine stepY 24 ?_; refine stepY 25 ?_; refine stepY 26 ?_
    refine any_sta 27 (cs' := pp ++ PactNote.cv x (.slice u1 x.Rec.Work.Take.length v1) (.slice u2 x.Rec.Work.Drop.length v2) (.slice x3 x.Rec.Parts.length y3) ++ qq) rfl rfl rfl rfl (by simp only [Nat.zero_add, List.length_append, hcw, hpl, List.length_singleton]; omega) (by rw [Nat.zero_add, set_cut (by simp only [List.length_append, hcw, hpl]; omega)]; exact set_mid (k := 7) hpl (by rw [hcw]; decide)) ⟨subA, ?_⟩
    refine stepY 28 ?_; refine stepY 29 ?_
    refine any_sta 30 (cs' := pp ++ PactNote.cv x (.slice u1 x.Rec.Work.Take.length v1) (.slice u2 x.Rec.Work.Drop.length v2) (.slice u3 x.Rec.Parts.length v3) ++ qq) rfl rfl rfl rfl (by simp only [Nat.zero_add, List.length_append, hcw, hpl, List.length_singleton]; omega) (by rw [Nat.zero_add, set_cut (by simp only [List.length_append, hcw, hpl]; omega)]; exact set_mid (k := 9) hpl (by rw [hcw]; decide)) ⟨subA, ?_⟩
    refine any_rest rfl ?_
    refine walk ?_
    have hs5 := RL.set (q5.mono (hl2.trans (hl3.trans hl4))) (us := PactNote.cv x (.slice u1 x.Rec.Work.Take.length v1) (.slice u2 x.Rec.Work.Drop.length v2) (.slice u3 x.Rec.Parts.length v3)) (y := x) ⟨_, _, _, rfl, f0, f1, f2, f3, f4, f5, h1.mono (hl3.trans hl4), h2.mono hl4, h3⟩ hj1
    have hsx : l.set j x = l := by rw [← hx, List.set_getElem_self]
    rw [hsx, hcw, List.append_assoc pp, List.take_left' hpl, ← List.append_assoc pp, List.drop_left' (by rw [List.length_append, hpl]; rfl)] at hs5
    have e3 : pp ++ PactNote.cv x (.slice u1 x.Rec.Work.Take.length v1) (.slice u2 x.Rec.Work.Drop.length v2) (.slice u3 x.Rec.Parts.length v3) ++ qq = pp ++ PactNote.cv x (.slice u1 x.Rec.Work.Take.length v1) (.slice u2 x.Rec.Work.Drop.length v2) (.slice u3 x.Rec.Parts.length v3) ++ rr ++ sp := by rw [← hqq, List.append_assoc (pp ++ _)]
    rw [e3]
    refine out_next hL (j + 1, H4) ⟨by simp only; omega, hlK.trans (hl2.trans (hl3.trans hl4))⟩ (hs := ?_)
    refine (own_shut ?_ q1 q2 ?_).trans (ownS_mk hs5 q6)
    · rw [← q3]; simp only [List.length_append, hcw]; rfl
    · rw [← q4]; simp only [List.length_append, hcw]; rfl
  · obtain rfl : j = l.length := by omega
    clear hL
    refine walk ?_
    refine finB [wLog HK (.slice b1 l.length c1) l, worldO HK p w] ?_ (hs := Sub.cons (hwf HK hlK))
    rfl
end Go.Proofs.YtpphdbnifbjfmaaGreatDoor
