/- What a world keeps to, whatever is played. No program in sight. -/
import Derived.Test.YtpphdbnifbjfmaaGreatDoorJXI
import Derived.Test.YtpphdbnifbjfmaaGreatDoorJYD
set_option linter.unusedVariables false
set_option linter.unusedSimpArgs false
namespace Go.Proofs.YtpphdbnifbjfmaaGreatDoor
open Go Go.Sx Go.Proofs
theorem crash_ts {K : Nat} {s : CS} (I : CInv K s) (k : K3) : mget k (crashC s).ts = (mget k s.ts).bind fun t => if t.op = true then some ⟨true, 0, t.parts, [], []⟩ else none := by
  have hall : ∀ k t, mget k (loadTs (openL s) []) = some t → ∃ t0, mget k s.ts = some t0 ∧ t0.op = true ∧ t = ⟨true, 0, t0.parts, [], []⟩ := by
    refine loadTs_all (fun k t h => (by cases h)) fun r hr => ?_
    obtain ⟨k0, t0, h1, h2, rfl⟩ := mem_openL hr
    refine ⟨t0, ?_, h2, rfl⟩
    show mget (toTx k0).k s.ts = _
    rw [k_toTx]; exact h1
  show mget k (loadTs (openL s) []) = _
  cases hg : mget k (loadTs (openL s) []) with
  | some t =>
    obtain ⟨t0, h1, h2, rfl⟩ := hall k t hg
    rw [h1]; simp [h2]
  | none =>
    cases hs : mget k s.ts with
    | none => rfl
    | some t =>
      by_cases ho : t.op = true
      · exfalso
        have : (mget k (loadTs (openL s) [])).isSome = true := by
          rw [loadTs_keys]
          right
          refine ⟨recC (toTx k) t.parts, ?_, k_toTx k⟩
          unfold openL
          refine List.mem_map.2 ⟨k, List.mem_filter.2 ⟨mem_allC.2 (by rw [hs]; rfl), ?_⟩, ?_⟩
          · rw [hs]; exact ho
          · rw [hs]; rfl
        rw [hg] at this; cases this
      · simp [ho]
theorem crash_turn {K n : Nat} {B : List BT} {w w' : PW} {i : Nat} (N : NOk K w) (S : SI B (absW w)) (h : PCrash n w i w') : SI B (absW w') ∧ Nxt B B (absW w) (absW w') := by
  cases h with
  | mk h s' hs hI =>
    have IC := N.C i h
    have e : absW { setN w i ⟨s', crashC w.ns[i].cs⟩ with net := Net.clr i w.net } = { absW w with st := fun x => if x.Node = i then (mget x.k (crashC w.ns[i].cs).ts).map viewT else (absW w).st x } := by
      refine AS.eq (fun x => ?_) (fun p x => ?_) (fun p x => ?_) rfl
      · exact abs_st (l := w.log) (nt := Net.clr i w.net) h x
      · refine (abs_wk (l := w.log) (nt := Net.clr i w.net) h p x).trans ?_
        split
        · next e => rw [e]; exact (hs.w x.k).trans (wk_at h).symm
        · rfl
      · refine (abs_dn (l := w.log) (nt := Net.clr i w.net) h p x).trans ?_
        split
        · next e =>
          rw [e]
          refine Iff.trans ?_ (dn_at h).symm
          unfold isD
          rw [hs.d]
        · rfl
    rw [e]
    refine S.weak fun x => ?_
    by_cases hx : x.Node = i
    · rw [if_pos hx, st_at h hx, crash_ts IC]
      cases hg : mget x.k w.ns[i].cs.ts with
      | none => exact .inl rfl
      | some t =>
        cases ho : t.op with
        | false => exact .inr (.inl ⟨by simp [ho], fun t' ht' => by cases ht'; exact ho⟩)
        | true => exact .inr (.inr ⟨viewT t, viewT ⟨true, 0, t.parts, [], []⟩, rfl, ho, by simp [ho], rfl, rfl, fun p hp => by cases hp⟩)
    · rw [if_neg hx]; exact .inl rfl
def WkOk (B : List BT) (w : PW) : Prop := ∀ i (h : i < w.ns.length) k t, mget k w.ns[i].cs.ts = some t → t.op = false → ∃ b ∈ B, b.x = toTx k ∧ pq t.works = b.ws
theorem wk_in {t : TX} {p : Int} (hk : t.works.map (·.1) = t.parts) (hp : p ∈ t.parts) : (p, t.wk p) ∈ pq t.works := by
  rw [← hk] at hp
  obtain ⟨v, hv⟩ := mget_key.1 hp
  unfold TX.wk pq
  rw [hv]
  exact List.mem_map.2 ⟨(p, v), mget_mem hv, rfl⟩
theorem again_jm {K : Nat} {B : List BT} {w : PW} {i : Nat} (N : NOk K w) (S : SI B (absW w)) (W : WkOk B w) (h : i < w.ns.length) {k : K3} {t : TX} (hg : mget k w.ns[i].cs.ts = some t) {m : Message} (hm : m ∈ againL w.ns[i].cs.node (toTx k) t) : JM B (absW w) m ∧ noWork m := by
  obtain ⟨_, hnode⟩ := N.sh i h
  have IC := N.C i h
  have hx : (toTx k).Node = i := by rw [← hnode]; exact (IC.kn k t hg).1
  have hst : (absW w).st (toTx k) = some (viewT t) := by rw [st_at h hx, k_toTx, hg]; rfl
  unfold againL at hm
  obtain ⟨p, hp, rfl⟩ := List.mem_map.1 hm
  have hpp := (List.mem_filter.1 hp).1
  have hpt : ptB B (toTx k) p := (S.part hst).2 hpp
  unfold saidM
  by_cases ho : t.op = true
  · rw [if_pos ho]
    exact ⟨JM.dec rfl hpt (by show w.ns[i].cs.node = _; rw [hnode, ← hx]; rfl) (fun _ => (S.op _ _ hst ho).1) (fun hy => by cases hy), fun _ => rfl⟩
  · rw [if_neg ho]
    have ho' : t.op = false := by simpa using ho
    obtain ⟨b, hb, hbx, hbw⟩ := W i h k t hg ho'
    refine ⟨JM.prep rfl ⟨b, hb, hbx, ?_⟩ (by show w.ns[i].cs.node = _; rw [hnode, ← hx]; rfl), fun hk => absurd rfl hk⟩
    rw [← hbw]
    exact wk_in ((IC.ti k t hg).wk ho') hpp
theorem step_turn {K : Nat} {B : List BT} {w : PW} {i : Nat} {now : Int} (N : NOk K w) (S : SI B (absW w)) (W : WkOk B w) (h : i < w.ns.length) : Turn B w (setN w i ⟨w.ns[i].ps, stepS w.ns[i].cs now⟩) (stepOut w.ns[i].cs now ++ askL w.ns[i].ps) := by
  obtain ⟨hsh, hnode⟩ := N.sh i h
  have IC := N.C i h
  have e : absW (setN w i ⟨w.ns[i].ps, stepS w.ns[i].cs now⟩) = { absW w with st := fun x => if x.Node = i then (mget x.k (stepS w.ns[i].cs now).ts).map viewT else (absW w).st x } := by
    refine AS.eq (fun x => ?_) (fun p x => ?_) (fun p x => ?_) rfl
    · exact abs_st (l := w.log) (nt := w.net) h x
    · refine (abs_wk (l := w.log) (nt := w.net) h p x).trans ?_
      split
      · next e => rw [e]; exact (wk_at h).symm
      · rfl
    · refine (abs_dn (l := w.log) (nt := w.net) h p x).trans ?_
      split
      · next e => rw [e]; exact (dn_at h).symm
      · rfl
  have hget : ∀ k, mget k (stepS w.ns[i].cs now).ts = (mget k w.ns[i].cs.ts).bind fun t => if gaveUp t now then none else some t := fun k => by
    cases hg : mget k w.ns[i].cs.ts with
    | none =>
      cases hs : mget k (stepS w.ns[i].cs now).ts with
      | none => rfl
      | some t => have := ((stepS_get IC).1 hs).1; rw [hg] at this; cases this
    | some t =>
      by_cases hu : gaveUp t now
      · cases hs : mget k (stepS w.ns[i].cs now).ts with
        | none => simp [hu]
        | some t' => have := (stepS_get IC).1 hs; rw [hg] at this; obtain ⟨h1, h2⟩ := this; cases h1; exact absurd hu h2
      · rw [(stepS_get IC).2 ⟨hg, hu⟩]; simp [hu]
  have hw := S.weak (st' := fun x => if x.Node = i then (mget x.k (stepS w.ns[i].cs now).ts).map viewT else (absW w).st x) fun x => by
    by_cases hx : x.Node = i
    · rw [if_pos hx, st_at h hx, hget]
      cases hg : mget x.k w.ns[i].cs.ts with
      | none => exact .inl rfl
      | some t =>
        by_cases hu : gaveUp t now
        · exact .inr (.inl ⟨by simp [hu], fun t' ht' => by cases ht'; exact hu.1⟩)
        · exact .inl (by simp [hu])
    · rw [if_neg hx]; exact .inl rfl
  unfold Turn
  rw [e]
  refine ⟨hw.1, hw.2, fun g hg => ?_⟩
  rcases List.mem_append.1 hg with hg | hg
  · unfold stepOut at hg
    obtain ⟨k, hk, hg⟩ := List.mem_flatMap.1 hg
    have hk' := mem_allC.1 hk
    cases hs : mget k w.ns[i].cs.ts with
    | none => rw [hs] at hk'; cases hk'
    | some t =>
      unfold stepOut1 at hg
      rw [hs, Option.getD_some] at hg
      have hx : (toTx k).Node = i := by rw [← hnode]; exact (IC.kn k t hs).1
      have hst : (absW w).st (toTx k) = some (viewT t) := by rw [st_at h hx, k_toTx, hs]; rfl
      split at hg
      · next hu =>
        unfold noL at hg
        obtain ⟨p, hp, rfl⟩ := List.mem_map.1 hg
        refine ⟨JM.dec rfl ((S.part hst).2 hp) (by show w.ns[i].cs.node = _; rw [hnode, ← hx]; rfl) (fun hy => by cases hy) fun _ => ?_, fun _ => rfl⟩
        show (if (toTx k).Node = i then (mget (toTx k).k (stepS w.ns[i].cs now).ts).map viewT else _) = none
        rw [if_pos hx, k_toTx, hget, hs]; simp [hu]
      · obtain ⟨h1, h2⟩ := again_jm N S W h hs hg
        exact ⟨h1.next hw.2, h2⟩
  · unfold askL at hg
    obtain ⟨q, hq, rfl⟩ := List.mem_map.1 hg
    have hwk : (absW w).wk i q.Txn = some q.Work := by rw [wk_at h]; exact (N.P i h).t.recs hq
    refine ⟨JM.ask rfl ?_ rfl, fun _ => rfl⟩
    show ptB B q.Txn w.ns[i].ps.sh
    rw [hsh]; exact (S.wb _ _ _ hwk).pt
theorem begin_turn {K : Nat} {B : List BT} {w : PW} {i : Nat} {now : Int} {ws : List (Int × CW)} (N : NOk K w) (S : SI B (absW w)) (h : i < w.ns.length) (hne : ws ≠ []) (hnd : (ws.map (·.1)).Nodup) (hf : ¬ knB B (newX w.ns[i].cs)) :
    SI (⟨newX w.ns[i].cs, pq ws⟩ :: B) (absW (setN w i ⟨w.ns[i].ps, beginS w.ns[i].cs now ws⟩)) ∧ Nxt B (⟨newX w.ns[i].cs, pq ws⟩ :: B) (absW w) (absW (setN w i ⟨w.ns[i].ps, beginS w.ns[i].cs now ws⟩)) ∧
      ∀ g ∈ saidB w.ns[i].cs now ws, JM (⟨newX w.ns[i].cs, pq ws⟩ :: B) (absW (setN w i ⟨w.ns[i].ps, beginS w.ns[i].cs now ws⟩)) g ∧ noWork g := by
  obtain ⟨hsh, hnode⟩ := N.sh i h
  have hx : (newX w.ns[i].cs).Node = i := hnode
  have hps : (⟨newX w.ns[i].cs, pq ws⟩ : BT).ps = ws.map (·.1) := pq_fst
  have hv : viewT (beganT now ws) = ⟨false, (⟨newX w.ns[i].cs, pq ws⟩ : BT).ps, fun _ => false⟩ := by rw [hps]; rfl
  have e : absW (setN w i ⟨w.ns[i].ps, beginS w.ns[i].cs now ws⟩) = setS (absW w) (newX w.ns[i].cs) (some ⟨false, (⟨newX w.ns[i].cs, pq ws⟩ : BT).ps, fun _ => false⟩) := by
    refine (abs_c (l := w.log) h hx (v := some (viewT (beganT now ws))) fun y _ => ?_).trans (by rw [hv]; rfl)
    unfold beginS
    rw [if_neg hne]
    show (mget y.k (mset (newX w.ns[i].cs).k (beganT now ws) w.ns[i].cs.ts)).map viewT = _
    rw [mget_mset]
    by_cases ey : y = newX w.ns[i].cs
    · rw [if_pos ey, if_pos (by rw [ey])]; rfl
    · rw [if_neg ey, if_neg fun e1 => ey (k_inj e1)]
  have hS := S.begin (b := ⟨newX w.ns[i].cs, pq ws⟩) hf fun q hq q' hq' e1 => by
    have hn2 : ((pq ws).map (·.1)).Nodup := by rw [pq_fst]; exact hnd
    have h1 := mget_of_mem hn2 hq
    have h2 := mget_of_mem hn2 hq'
    rw [e1, h2] at h1
    exact Prod.ext e1 (by simpa using h1.symm)
  rw [e]
  refine ⟨hS.1, hS.2, fun g hg => ?_⟩
  unfold saidB at hg
  rw [if_neg hne] at hg
  unfold againL at hg
  obtain ⟨p, hp, rfl⟩ := List.mem_map.1 hg
  have hpp : p ∈ ws.map (·.1) := (List.mem_filter.1 hp).1
  refine ⟨JM.prep rfl ⟨⟨newX w.ns[i].cs, pq ws⟩, List.mem_cons_self .., rfl, ?_⟩ rfl, fun hk => absurd rfl hk⟩
  exact wk_in (t := beganT now ws) rfl hpp
def HdOk (B : List BT) (w : PW) : Prop := ∀ i (h : i < w.ns.length) key r, mget key w.ns[i].ps.t.held = some r → ∃ b ∈ B, ∃ u : Work, ((i : Int), u) ∈ b.ws ∧ key ∈ u.Take ∧ r = u.Robot ∧ (absW w).dn i b.x
structure WInv (n K : Nat) (B : List BT) (w : PW) : Prop where
  len : w.ns.length = n
  n4 : 1 ≤ n ∧ n ≤ 4
  N : NOk K w
  life : ∀ i (h : i < w.ns.length), 1 ≤ w.ns[i].cs.life ∧ w.ns[i].cs.life ≤ K + 1
  bl : B.length ≤ K
  k3 : K ≤ 300
  bx : ∀ b ∈ B, ∃ (i : Nat) (h : i < w.ns.length), b.x.Node = i ∧ okX b.x.k ∧ b.x.Life ≤ w.ns[i].cs.life ∧ (b.x.Life = w.ns[i].cs.life → b.x.Count ≤ w.ns[i].cs.count)
  bw : ∀ b ∈ B, (b.ws.map (·.1)).Pairwise (· < ·) ∧ ∀ q ∈ b.ws, 0 ≤ q.1 ∧ q.1 < n ∧ OkW q.2
  S : SI B (absW w)
  W : WkOk B w
  bg : ∀ i (h : i < w.ns.length) k t, mget k w.ns[i].cs.ts = some t → t.op = false → t.began ≤ w.now
  hd : HdOk B w
  J : ∀ m ∈ w.net, JM B (absW w) m ∧ noWork m
  nl : w.net.length ≤ 64
  now : 0 ≤ w.now ∧ w.now ≤ 1073741824
theorem okz0 : OkW zWork := ⟨by simp [zWork], by simp [zWork], fits0, fun k hk => by cases hk⟩
theorem WInv.part {n K : Nat} {B : List BT} {w : PW} (I : WInv n K B w) {x : Txn} {p : Int} (h : ptB B x p) : 0 ≤ p ∧ p < n := by
  obtain ⟨b, hb, _, hp⟩ := h
  obtain ⟨q, hq, rfl⟩ := List.mem_map.1 hp
  have := (I.bw b hb).2 q hq
  exact ⟨this.1, this.2.1⟩
theorem WInv.kn {n K : Nat} {B : List BT} {w : PW} (I : WInv n K B w) {x : Txn} (h : knB B x) : okX x.k ∧ isNode w x.Node := by
  obtain ⟨b, hb, rfl⟩ := h
  obtain ⟨i, hi, h1, h2, _⟩ := I.bx b hb
  exact ⟨h2, by unfold isNode; omega⟩
theorem WInv.msg {n K : Nat} {B : List BT} {w : PW} (I : WInv n K B w) {m : Message} (h : JM B (absW w) m ∧ noWork m) : OkM m ∧ isNode w m.To := by
  obtain ⟨J, hw⟩ := h
  refine ⟨⟨?_, (I.kn J.kn).1⟩, ?_⟩
  · by_cases k : m.Kind = 1
    · obtain ⟨_, b, hb, _, hq⟩ := J.k1 k
      exact ((I.bw b hb).2 _ hq).2.2
    · rw [hw k]; exact okz0
  · have hl := I.len
    rcases J.kd with k | k | k | k | k
    · have := I.part (J.k1 k).2.pt; unfold isNode; omega
    · rw [(J.kp (.inl k)).1]; exact (I.kn J.kn).2
    · have := I.part (J.k3 k).2.1; unfold isNode; omega
    · rw [(J.kp (.inr (.inl k))).1]; exact (I.kn J.kn).2
    · rw [(J.kp (.inr (.inr k))).1]; exact (I.kn J.kn).2
theorem nodup_map_of {α β : Type} [DecidableEq β] {f : α → β} {l : List α} (h : l.Nodup) (hf : ∀ a ∈ l, ∀ b ∈ l, f a = f b → a = b) : (l.map f).Nodup := by
  induction l with
  | nil => simp
  | cons a l ih =>
    rw [List.nodup_cons] at h
    rw [List.map_cons, List.nodup_cons]
    refine ⟨fun hm => ?_, ih h.2 fun x hx y hy => hf x (List.mem_cons_of_mem _ hx) y (List.mem_cons_of_mem _ hy)⟩
    obtain ⟨b, hb, e⟩ := List.mem_map.1 hm
    have := hf b (List.mem_cons_of_mem _ hb) a (List.mem_cons_self ..) e
    rw [this] at hb; exact h.1 hb
theorem PInv.fit {K n' i : Nat} {B : List BT} {w : PW} (h : i < w.ns.length) (S : SI B (absW w)) (H : HdOk B w) (hbw : ∀ b ∈ B, (b.ws.map (·.1)).Pairwise (· < ·) ∧ ∀ q ∈ b.ws, OkW q.2) (hP : PInv n' w.ns[i].ps) (hB : B.length ≤ K) : PInv K w.ns[i].ps := by
  have hkey : ∀ {l : List K3}, l.Nodup → (∀ k ∈ l, knB B (toTx k)) → l.length ≤ K := fun {l} hn hl => by
    have hs : ∀ k ∈ l, k ∈ B.map fun b => b.x.k := fun k hk => by
      obtain ⟨b, hb, e⟩ := hl k hk
      exact List.mem_map.2 ⟨b, hb, by show b.x.k = k; rw [e, k_toTx]⟩
    have := nodup_sub_len hn hs
    rw [List.length_map] at this
    omega
  have hwk : w.ns[i].ps.t.works.length ≤ K := by
    have := hkey (l := w.ns[i].ps.t.works.map (·.1)) hP.t.wd fun k hk => by
      obtain ⟨v, hv⟩ := mget_key.1 hk
      have : (absW w).wk i (toTx k) = some v.2 := by rw [wk_at h, k_toTx]; unfold gW; rw [hv]; rfl
      exact (S.wb _ _ _ this).pt.kn
    rwa [List.length_map] at this
  have hdn : w.ns[i].ps.done.length ≤ K := by
    have := hkey (l := w.ns[i].ps.done.map (·.1)) hP.dd fun k hk => by
      obtain ⟨v, hv⟩ := mget_key.1 hk
      have : (absW w).dn i (toTx k) := by rw [dn_at h]; unfold isD; rw [k_toTx, hv]; rfl
      exact (S.db _ _ this).2.kn
    rwa [List.length_map] at this
  have hhd : w.ns[i].ps.t.held.length ≤ 40 * K := by
    have hlen : ∀ (C : List BT), (∀ b ∈ C, (b.ws.map (·.1)).Pairwise (· < ·) ∧ ∀ q ∈ b.ws, OkW q.2) → (C.flatMap fun b => ((mget (i : Int) b.ws).getD zWork).Take).length ≤ 40 * C.length := by
      intro C
      induction C with
      | nil => intro _; simp
      | cons b C ih =>
        intro hC
        rw [List.flatMap_cons, List.length_append, List.length_cons]
        have h1 := ih fun c hc => hC c (List.mem_cons_of_mem _ hc)
        have h2 : ((mget (i : Int) b.ws).getD zWork).Take.length ≤ 40 := by
          cases hg : mget (i : Int) b.ws with
          | none => simp [zWork]
          | some u => exact ((hC b (List.mem_cons_self ..)).2 _ (mget_mem hg)).take
        omega
    have hs : ∀ k ∈ w.ns[i].ps.t.held.map (·.1), k ∈ B.flatMap fun b => ((mget (i : Int) b.ws).getD zWork).Take := fun k hk => by
      obtain ⟨v, hv⟩ := mget_key.1 hk
      obtain ⟨b, hb, u, h1, h2, _⟩ := H i h k v hv
      refine List.mem_flatMap.2 ⟨b, hb, ?_⟩
      have hnd : (b.ws.map (·.1)).Nodup := by rw [List.nodup_iff_pairwise_ne]; exact (hbw b hb).1.imp fun h e => by omega
      rw [mget_of_mem hnd h1]; exact h2
    have := nodup_sub_len hP.t.hd hs
    rw [List.length_map] at this
    have := hlen B hbw
    omega
  exact { hP with t := { hP.t with hn := hhd, wn := hwk }, dn := hdn }
theorem WInv.ok {n K : Nat} {B : List BT} {w : PW} (I : WInv n K B w) (hl : w.log.length ≤ 900000000) : WOk K w := by
  have hm : ∀ q ∈ w.ns, ∃ (i : Nat) (h : i < w.ns.length), w.ns[i] = q := fun q hq => List.getElem_of_mem hq
  refine ⟨fun q hq => ?_, fun q hq => ?_, fun q hq k t hg => ?_, by have := I.k3; omega, hl, fun q hq => ?_, I.N.sh⟩
  · obtain ⟨i, h, rfl⟩ := hm q hq; exact I.N.P i h
  · obtain ⟨i, h, rfl⟩ := hm q hq; exact I.N.C i h
  · obtain ⟨i, h, rfl⟩ := hm q hq
    have T := (I.N.C i h).ti k t hg
    have hx : (toTx k).Node = i := by rw [← (I.N.sh i h).2]; exact ((I.N.C i h).kn k t hg).1
    have hst : (absW w).st (toTx k) = some (viewT t) := by rw [st_at h hx, k_toTx, hg]; rfl
    have hs : ∀ p ∈ t.parts, p ∈ (List.range n).map fun (j : Nat) => (j : Int) := fun p hp => by
      have := I.part ((I.S.part hst).2 hp)
      exact List.mem_map.2 ⟨p.toNat, List.mem_range.2 (by omega), by omega⟩
    have := nodup_sub_len T.parts_nodup hs
    rw [List.length_map, List.length_range] at this
    have := I.n4
    omega
  · obtain ⟨i, h, rfl⟩ := hm q hq
    have := I.life i h
    have := I.k3
    unfold fits; omega
theorem NOk.set {K K' i : Nat} {w w' : PW} {q : PN} (N : NOk K w) (hK : K ≤ K') (h : i < w.ns.length) (hw : w'.ns = w.ns.set i q) (h1 : q.ps.sh = i) (h2 : q.cs.node = i) (hP : PInv K' q.ps) (hC : CInv K' q.cs) : NOk K' w' := by
  have hl : ∀ j, j < w'.ns.length → j < w.ns.length := fun j hj => by rw [hw, List.length_set] at hj; exact hj
  refine ⟨fun j hj => ?_, fun j hj => ?_, fun j hj => ?_⟩
  · simp only [hw, List.getElem_set]
    split
    · next e => subst e; exact ⟨h1, h2⟩
    · exact N.sh j (hl j hj)
  · simp only [hw, List.getElem_set]
    split
    · exact hP
    · exact (N.P j (hl j hj)).more hK
  · simp only [hw, List.getElem_set]
    split
    · exact hC
    · exact (N.C j (hl j hj)).more hK
end Go.Proofs.YtpphdbnifbjfmaaGreatDoor
