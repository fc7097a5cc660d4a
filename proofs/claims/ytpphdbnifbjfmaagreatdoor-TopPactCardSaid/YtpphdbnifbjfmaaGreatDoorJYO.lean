/- TopPact, the plain law: what is held of each that was begun, once all is settled. No program in sight. -/
import Derived.Test.YtpphdbnifbjfmaaGreatDoorJYM
set_option linter.unusedVariables false
set_option linter.unusedSimpArgs false
namespace Go.Proofs.YtpphdbnifbjfmaaGreatDoor
open Go Go.Sx Go.Proofs
def NoDrop (B : List BT) : Prop := ∀ b ∈ B, ∀ q ∈ b.ws, q.2.Drop = []
def Uniq (B : List BT) : Prop := ∀ b ∈ B, ∀ b' ∈ B, ∀ q ∈ b.ws, ∀ q' ∈ b'.ws, ∀ key : ByteArray, key ∈ q.2.Take → key ∈ q'.2.Take → b = b'
def NtOk (B : List BT) (e : PactNote) : Prop := (e.Rec.Kind = 2 → inB B e.Rec.Txn e.Node e.Rec.Work) ∧ (e.Rec.Kind = 4 → ∃ b ∈ B, b.x = e.Rec.Txn ∧ e.Rec.Parts = b.ps)
structure TI (B : List BT) (w : PW) : Prop where
  nd : NoDrop B
  un : Uniq B
  hv : ∀ i (h : i < w.ns.length), ∀ b ∈ B, ∀ u, ((i : Int), u) ∈ b.ws → isD w.ns[i].ps b.x → ∀ key ∈ u.Take, mget key w.ns[i].ps.t.held = some u.Robot
  nt : ∀ e ∈ w.log, NtOk B e
theorem NtOk.up {B B' : List BT} {e : PactNote} (hb : ∀ b ∈ B, b ∈ B') (h : NtOk B e) : NtOk B' e := ⟨fun k => (h.1 k).up hb, fun k => by obtain ⟨b, h1, h2⟩ := h.2 k; exact ⟨b, hb b h1, h2⟩⟩
def SameH (w w' : PW) : Prop := w'.ns.length = w.ns.length ∧ ∀ i (h : i < w.ns.length) (h' : i < w'.ns.length), (∀ k, mget k w'.ns[i].ps.t.held = mget k w.ns[i].ps.t.held) ∧ ∀ k, mget k w'.ns[i].ps.done = mget k w.ns[i].ps.done
theorem SameH.refl {w w' : PW} (h : w'.ns = w.ns) : SameH w w' := ⟨by rw [h], fun i h1 h2 => by simp [h]⟩
theorem SameH.set {w w' : PW} {i : Nat} {q : PN} (hi : i < w.ns.length) (hw : w'.ns = w.ns.set i q) (h1 : ∀ k, mget k q.ps.t.held = mget k w.ns[i].ps.t.held) (h2 : ∀ k, mget k q.ps.done = mget k w.ns[i].ps.done) : SameH w w' := by
  refine ⟨by rw [hw, List.length_set], fun j hj hj' => ?_⟩
  simp only [hw]
  rw [set_get]
  split
  · next e => subst e; exact ⟨h1, h2⟩
  · exact ⟨fun _ => rfl, fun _ => rfl⟩
theorem TI.quiet {B : List BT} {w w' : PW} (T : TI B w) (hh : SameH w w') (hg : ∀ e ∈ w'.log, e ∈ w.log ∨ NtOk B e) : TI B w' :=
  ⟨T.nd, T.un, fun i h b hb u hu hd key hk => by
    have h0 : i < w.ns.length := by have := hh.1; omega
    rw [(hh.2 i h0 h).1]
    exact T.hv i h0 b hb u hu (by unfold isD at hd ⊢; rw [← (hh.2 i h0 h).2]; exact hd) key hk, fun e he => (hg e he).elim (T.nt e) id⟩
theorem TI.part {K : Nat} {B : List BT} {w w' : PW} {m : Message} {i : Nat} {cs : List Value} (T : TI B w) (S : SI B (absW w)) (hi : i < w.ns.length) (hP : PInv K w.ns[i].ps) (J : JM B (absW w) m) (hm : m.To = i) (hw : w'.ns = w.ns.set i ⟨hearS w.ns[i].ps m cs, w.ns[i].cs⟩) (hlg : w'.log = w.log ++ noteL m.To (hearRec w.ns[i].ps m)) : TI B w' := by
  have same : ∀ (h2 : hearRec w.ns[i].ps m = []) (h3 : hearS w.ns[i].ps m cs = w.ns[i].ps), TI B w' := fun h2 h3 => by
    refine T.quiet (SameH.set hi hw (fun k => by rw [h3]) (fun k => by rw [h3])) fun e he => ?_
    rw [hlg, h2] at he
    exact .inl (by simpa [noteL] using he)
  rcases hear_cases w.ns[i].ps m with ⟨_, h2, h3⟩ | ⟨_, _, _, _, _, h2, h3⟩ | ⟨_, k, _, _, _, _, h2, h3⟩ | ⟨_, _, _, _, _, _, h2, h3⟩ | ⟨_, k, hp, _, h2, h3⟩ | ⟨_, _, _, _, h2, h3⟩
  · exact same h2 (h3 cs)
  · exact same h2 (h3 cs)
  · refine T.quiet (SameH.set hi hw (fun k => by rw [h3]; rfl) (fun k => by rw [h3])) fun e he => ?_
    rw [hlg, h2] at he
    rcases List.mem_append.1 he with he | he
    · exact .inl he
    · right
      obtain rfl : e = ⟨m.To, recP m⟩ := by simpa [noteL] using he
      exact ⟨fun _ => (J.k1 k).2, fun h4 => by have : (2 : Int) = 4 := h4; omega⟩
  · exact same h2 (h3 cs)
  · obtain ⟨u0, hu0⟩ := isP_iff.1 hp
    obtain ⟨b0, hb0, hx0, hq0⟩ := S.wb i m.Txn u0 (by rw [wk_at hi]; exact hu0)
    refine ⟨T.nd, T.un, fun j hj b hb u hu hd key hk => ?_, fun e he => ?_⟩
    · have hj0 : j < w.ns.length := by rw [hw, List.length_set] at hj; exact hj
      simp only [hw] at hd ⊢
      rw [set_get] at hd ⊢
      by_cases e : i = j
      · subst e
        rw [if_pos rfl] at hd ⊢
        simp only [h3] at hd ⊢
        rw [applyT_eq, hu0]
        show mget key (applyW w.ns[i].ps.t m.Txn m.Yes u0).held = _
        unfold applyW
        dsimp only
        by_cases hy : m.Yes = true
        · rw [if_pos hy]
          have g1 := (takeAll_get (r := u0.Robot) (k := key) (ks := u0.Take) (dropAll_get (r := u0.Robot) (k := key) (ks := u0.Drop) hP.t.hd).2.1).1
          have hbu : b = b0 → u = u0 := fun e => by
            subst e
            have := S.bw b hb _ hu _ hq0 rfl
            exact (Prod.mk.inj this).2
          rw [g1]
          by_cases hk0 : key ∈ u0.Take
          · rw [if_pos hk0, hbu (T.un b hb b0 hb0 _ hu _ hq0 key hk hk0)]
          · rw [if_neg hk0]
            have hne : ¬ b.x.k = m.Txn.k := fun e => hk0 (by
              rw [← hbu (S.bn b hb b0 hb0 ((k_inj e).trans hx0.symm))]; exact hk)
            have hd0 : isD w.ns[i].ps b.x := by
              unfold isD at hd ⊢
              dsimp only at hd
              rw [if_pos hy, mget_mset, if_neg (fun e => hne e)] at hd
              exact hd
            have hdn : u0.Drop = [] := T.nd b0 hb0 _ hq0
            rw [hdn]
            exact T.hv i hi b hb u hu hd0 key hk
        · rw [if_neg hy]
          have hd0 : isD w.ns[i].ps b.x := by
            unfold isD at hd ⊢
            dsimp only at hd
            rw [if_neg hy] at hd
            exact hd
          exact T.hv i hi b hb u hu hd0 key hk
      · rw [if_neg e] at hd ⊢
        exact T.hv j hj0 b hb u hu hd key hk
    · rw [hlg, h2] at he
      rcases List.mem_append.1 he with he | he
      · exact T.nt e he
      · obtain rfl : e = ⟨m.To, recA m⟩ := by simpa [noteL] using he
        exact ⟨fun h4 => by have : (3 : Int) = 2 := h4; omega, fun h4 => by have : (3 : Int) = 4 := h4; omega⟩
  · exact same h2 (h3 cs)
theorem cHear_rc {s : CS} {m : Message} : ∀ r ∈ (cHear s m).rc, (r.Kind = 4 ∧ s.isT m.Txn ∧ r.Txn = m.Txn ∧ r.Parts = (s.tx m.Txn).parts) ∨ r.Kind = 5 := by
  intro r hr
  unfold cHear at hr
  repeat' split at hr
  all_goals first
    | (cases hr; done)
    | skip
  · next hh _ =>
    obtain rfl := List.mem_singleton.1 hr
    exact .inl ⟨rfl, hh.2.1.1, rfl, rfl⟩
  · obtain rfl := List.mem_singleton.1 hr
    exact .inr rfl
theorem TI.hear {n K : Nat} {B : List BT} {w w' : PW} {m : Message} {out : List Message} (T : TI B w) (N : NOk K w) (S : SI B (absW w)) (J : JM B (absW w) m) (h : PHear w m w' out) : TI B w' := by
  cases h with
  | part k i hm hi cs => exact T.part S hi (N.P i hi) J hm rfl rfl
  | coord kk i hm hi =>
    refine T.quiet (SameH.set hi rfl (fun _ => rfl) fun _ => rfl) fun e he => ?_
    rcases List.mem_append.1 he with he | he
    · exact .inl he
    · right
      unfold noteL at he
      obtain ⟨r, hr, rfl⟩ := List.mem_map.1 he
      rcases cHear_rc r hr with ⟨h1, h2, h3, h4⟩ | h1
      · refine ⟨fun k2 => by have : r.Kind = 2 := k2; omega, fun _ => ?_⟩
        have hxn : m.Txn.Node = i := by
          rcases J.kd with k | k | k | k | k
          · exact absurd (Or.inl k) kk
          · rw [← (J.kp (.inl k)).1]; exact hm
          · exact absurd (Or.inr k) kk
          · rw [← (J.kp (.inr (.inl k))).1]; exact hm
          · rw [← (J.kp (.inr (.inr k))).1]; exact hm
        have hg := CS.get_tx h2
        obtain ⟨b, hb, e1, e2⟩ := S.sb m.Txn (viewT (w.ns[i].cs.tx m.Txn)) (by rw [st_at hi hxn, hg]; rfl)
        exact ⟨b, hb, by rw [e1, h3], by rw [h4, ← e2]; rfl⟩
      · exact ⟨fun k2 => by have : r.Kind = 2 := k2; omega, fun k4 => by have : r.Kind = 4 := k4; omega⟩
theorem TI.crash {m : Nat} {B : List BT} {w w' : PW} {i : Nat} (T : TI B w) (h : PCrash m w i w') : TI B w' := by
  cases h with
  | mk hi s' hs hI => exact T.quiet (SameH.set hi rfl hs.h hs.d) fun e he => .inl he
theorem TI.begin {n K : Nat} {B : List BT} {w w' : PW} {b : BT} (T : TI B w) (S : SI B (absW w)) (S' : SI (b :: B) (absW w')) (hh : SameH w w') (hg : w'.log = w.log) (hd : ∀ q ∈ b.ws, q.2.Drop = []) (hu : ∀ b' ∈ B, ∀ q ∈ b.ws, ∀ q' ∈ b'.ws, ∀ key : ByteArray, key ∈ q.2.Take → key ∉ q'.2.Take) : TI (b :: B) w' := by
  refine ⟨fun c hc q hq => ?_, fun c hc c' hc' q hq q' hq' key hk hk' => ?_, fun i h c hc u huc hdc key hk => ?_, fun e he => ?_⟩
  · rcases List.mem_cons.1 hc with rfl | hc
    · exact hd q hq
    · exact T.nd c hc q hq
  · rcases List.mem_cons.1 hc with e1 | h1
    · rcases List.mem_cons.1 hc' with e2 | h2
      · rw [e1, e2]
      · exact absurd hk' (hu c' h2 q (e1 ▸ hq) q' hq' key hk)
    · rcases List.mem_cons.1 hc' with e2 | h2
      · exact absurd hk (hu c h1 q' (e2 ▸ hq') q hq key hk')
      · exact T.un c h1 c' h2 q hq q' hq' key hk hk'
  · have h0 : i < w.ns.length := by have := hh.1; omega
    have hd0 : isD w.ns[i].ps c.x := by unfold isD at hdc ⊢; rw [← (hh.2 i h0 h).2]; exact hdc
    have hcB : c ∈ B := by
      obtain ⟨b', hb', e⟩ := S.cb _ (S.db _ _ ((dn_at h0).2 hd0)).1
      have := S'.bn c hc b' (List.mem_cons_of_mem _ hb') e.symm
      rw [this]; exact hb'
    rw [(hh.2 i h0 h).1]
    exact T.hv i h0 c hcB u huc hd0 key hk
  · rw [hg] at he
    exact (T.nt e he).up fun b hb => List.mem_cons_of_mem _ hb
theorem TI.play {n K m : Nat} {B : List BT} {w w' : PW} {k a e : Int} {works : List Work} (I : WInv n K B w) (T : TI B w) (hK : K < 300) (hok : ∀ x ∈ works, OkW x) (h : PPlay m w k a works w' e)
    (hd : k = 1 → ∀ q ∈ works0 0 works, q.2.Drop = []) (hu : k = 1 → ∀ b' ∈ B, ∀ q ∈ works0 0 works, ∀ q' ∈ b'.ws, ∀ key : ByteArray, key ∈ q.2.Take → key ∉ q'.2.Take) :
    ∃ B', WInv n (K + 1) B' w' ∧ TI B' w' ∧ (B' = B ∨ (k = 1 ∧ ∃ b, B' = b :: B ∧ b.ws = works0 0 works)) := by
  obtain ⟨B', I', hB⟩ := I.play hK hok h
  refine ⟨B', I', ?_, hB.imp id fun ⟨⟨h1, _⟩, b, h2, h3⟩ => ⟨h1, b, h2, h3⟩⟩
  have same : k ≠ 1 ∨ e ≠ 0 → B' = B := fun hk => hB.elim id fun ⟨⟨h1, h2⟩, _⟩ => hk.elim (fun h => absurd h1 h) fun h => absurd h2 h
  cases h with
  | bad => rw [same (.inr (by omega))]; exact T
  | begin h1 i ha hi hn ws hw =>
    have hS : SameH w { setN w i ⟨w.ns[i].ps, beginS w.ns[i].cs w.now ws⟩ with net := sendL w.net (saidB w.ns[i].cs w.now ws) } := SameH.set hi rfl (fun _ => rfl) fun _ => rfl
    rcases hB with rfl | ⟨_, b, rfl, hb⟩
    · exact T.quiet hS fun e he => .inl he
    · exact T.begin (n := n) (K := K) I.S I'.S hS rfl (by rw [hb]; exact hd h1) (by rw [hb]; exact hu h1)
  | none hk => rw [same (.inr (by omega))]; exact T
  | deliver hk j ha hj w1 out hh =>
    rw [same (.inl (by omega))]
    have T1 : TI B { w with net := delM w.net j } := T.quiet (SameH.refl rfl) fun e he => .inl he
    have T2 : TI B w1 := T1.hear (n := n) (K := K) ⟨I.N.sh, I.N.P, I.N.C⟩ I.S (I.J _ (List.getElem_mem hj)).1 hh
    exact T2.quiet (SameH.refl rfl) fun e he => .inl he
  | fail hk j ha hj w1 w2 out hh i hi hc =>
    rw [same (.inl (by omega))]
    have T1 : TI B { w with net := delM w.net j } := T.quiet (SameH.refl rfl) fun e he => .inl he
    have T2 : TI B w1 := T1.hear (n := n) (K := K) ⟨I.N.sh, I.N.P, I.N.C⟩ I.S (I.J _ (List.getElem_mem hj)).1 hh
    exact T2.crash hc
  | drop hk => rw [same (.inl (by omega))]; exact T.quiet (SameH.refl rfl) fun e he => .inl he
  | copy hk => rw [same (.inl (by omega))]; exact T.quiet (SameH.refl rfl) fun e he => .inl he
  | full hk => rw [same (.inl (by omega))]; exact T
  | step hk i ha hi => rw [same (.inl (by omega))]; exact T.quiet (SameH.set hi rfl (fun _ => rfl) fun _ => rfl) fun e he => .inl he
  | tick hk => rw [same (.inl (by omega))]; exact T.quiet (SameH.refl rfl) fun e he => .inl he
  | crash hk i ha hi w1 hc => rw [same (.inl (by omega))]; exact T.crash hc
theorem ti0 {n : Nat} : TI [] (newW n) := ⟨fun b hb => (by cases hb), fun b hb => (by cases hb), fun i h b hb => (by cases hb), fun e he => (by cases he)⟩
def Shape (B : List BT) : Prop := ∀ b ∈ B, ∃ (r : Int) (key : ByteArray), b.ws = [(0, ⟨r, [key], []⟩), (2, ⟨r, [key], []⟩)]
theorem Shape.part {B : List BT} (h : Shape B) {b : BT} (hb : b ∈ B) : b.ps = [0, 2] := by
  obtain ⟨r, key, e⟩ := h b hb
  unfold BT.ps; rw [e]; rfl
def isH (key : ByteArray) (r : Int) (h : Hold) : Bool := decide (h.Key = key ∧ h.Robot = r)
theorem count_one {l : List Hold} {f : ByteArray → Option Int} (hs : HSpec l f) (key : ByteArray) (r : Int) : l.countP (isH key r) = if f key = some r then 1 else 0 := by
  have gen : ∀ {l : List Hold}, (l.Pairwise fun a b => SLt a.Key b.Key) → l.countP (isH key r) = if (⟨key, r⟩ : Hold) ∈ l then 1 else 0 := by
    intro l
    induction l with
    | nil => intro _; simp
    | cons a l ih =>
      intro hp
      rw [List.pairwise_cons] at hp
      rw [List.countP_cons, ih hp.2]
      by_cases ha : isH key r a = true
      · obtain ⟨e1, e2⟩ := of_decide_eq_true ha
        have ea : a = ⟨key, r⟩ := by cases a; simp only at e1 e2; subst e1 e2; rfl
        have hn : (⟨key, r⟩ : Hold) ∉ l := fun hm => by
          have := hp.1 _ hm
          rw [ea] at this
          exact slt_irr this
        rw [if_neg hn, if_pos ha, if_pos (by rw [ea]; exact List.mem_cons_self ..)]
      · have hne : ¬ (⟨key, r⟩ : Hold) = a := fun e => ha (by subst e; exact decide_eq_true ⟨rfl, rfl⟩)
        rw [if_neg ha]
        by_cases hm : (⟨key, r⟩ : Hold) ∈ l
        · rw [if_pos hm, if_pos (List.mem_cons_of_mem _ hm)]
        · rw [if_neg hm, if_neg (fun h => (List.mem_cons.1 h).elim hne hm)]
  rw [gen hs.rise]
  by_cases h : f key = some r
  · rw [if_pos h, if_pos ((hs.mem ⟨key, r⟩).2 h)]
  · rw [if_neg h, if_neg (fun hm => h ((hs.mem ⟨key, r⟩).1 hm))]
def heldAt (w : PW) (key : ByteArray) (r : Int) (i : Nat) : Nat := (holdsW w i).countP (isH key r)
theorem heldAt_eq {n K : Nat} {B : List BT} {w : PW} (I : WInv n K B w) {i : Nat} (hi : i < w.ns.length) {key : ByteArray} {r : Int} : heldAt w key r i = if mget key w.ns[i].ps.t.held = some r then 1 else 0 := by
  unfold heldAt holdsW
  rw [nAt_nat hi]
  exact count_one (holdsL_spec (I.N.P i hi).t.hd) key r
theorem over_of {n K : Nat} {B : List BT} {w : PW} (I : WInv n K B w) (ho : ∀ i (h : i < w.ns.length), openL w.ns[i].cs = []) {x : Txn} (hc : com w.log x) : over w.log x := by
  apply Classical.byContradiction
  intro hn
  obtain ⟨t, ht, hop⟩ := I.S.cm x hc hn
  obtain ⟨i, hi, hxn⟩ : ∃ (i : Nat) (_ : i < w.ns.length), x.Node = i := by
    obtain ⟨b, hb, e⟩ := I.S.cb x hc
    obtain ⟨i, hi, h1, _⟩ := I.bx b hb
    exact ⟨i, hi, by rw [← e]; exact h1⟩
  rw [st_at hi hxn] at ht
  cases hg : mget x.k w.ns[i].cs.ts with
  | none => rw [hg] at ht; cases ht
  | some t' =>
    rw [hg] at ht
    have e : viewT t' = t := Option.some.inj ht
    have hop' : t'.op = true := by rw [← e] at hop; exact hop
    have hm : recC (toTx x.k) ((mget x.k w.ns[i].cs.ts).getD zTX).parts ∈ openL w.ns[i].cs := by
      unfold openL
      refine List.mem_map.2 ⟨x.k, List.mem_filter.2 ⟨mem_allC.2 (by rw [hg]; rfl), ?_⟩, rfl⟩
      rw [hg]; exact hop'
    rw [ho i hi] at hm
    cases hm
theorem top_held {K : Nat} {B : List BT} {w : PW} (I : WInv 3 K B w) (T : TI B w) (hs : Shape B) (ho : ∀ i (h : i < w.ns.length), openL w.ns[i].cs = []) {x : Txn} {p : Int} {u : Work} (hu : inB B x p u) :
    ∃ (r : Int) (key : ByteArray), u = ⟨r, [key], []⟩ ∧ (com w.log x → heldAt w key r 0 = 1 ∧ heldAt w key r 1 = 0 ∧ heldAt w key r 2 = 1) ∧ (¬ com w.log x → heldAt w key r 0 = 0 ∧ heldAt w key r 1 = 0 ∧ heldAt w key r 2 = 0) := by
  obtain ⟨b, hb, rfl, hq⟩ := hu
  obtain ⟨r, key, e⟩ := hs b hb
  have hl := I.len
  have hu' : u = ⟨r, [key], []⟩ := by
    rw [e] at hq
    simp only [List.mem_cons, Prod.mk.injEq, List.not_mem_nil, or_false] at hq
    rcases hq with ⟨_, h⟩ | ⟨_, h⟩ <;> exact h
  refine ⟨r, key, hu', fun hc => ?_, fun hc => ?_⟩
  · have hov := over_of I ho hc
    have at_ : ∀ (i : Nat) (hi : i < w.ns.length), ((i : Int), (⟨r, [key], []⟩ : Work)) ∈ b.ws → heldAt w key r i = 1 := fun i hi hm => by
      rw [heldAt_eq I hi]
      have hd : (absW w).dn i b.x := I.S.ov b.x i hov ⟨b, hb, rfl, List.mem_map.2 ⟨_, hm, rfl⟩⟩
      rw [if_pos (T.hv i hi b hb _ hm ((dn_at hi).1 hd) key (by simp))]
    refine ⟨at_ 0 (by omega) (by rw [e]; simp), ?_, at_ 2 (by omega) (by rw [e]; simp)⟩
    rw [heldAt_eq I (show 1 < w.ns.length by omega)]
    refine if_neg fun hm => ?_
    obtain ⟨b', hb', u', h1, h2, _⟩ := I.hd 1 (by omega) key r hm
    obtain rfl := T.un b hb b' hb' (0, ⟨r, [key], []⟩) (by rw [e]; simp) _ h1 key (by simp) h2
    rw [e] at h1
    simp at h1
  · have at_ : ∀ (i : Nat) (hi : i < w.ns.length), heldAt w key r i = 0 := fun i hi => by
      rw [heldAt_eq I hi]
      refine if_neg fun hm => ?_
      obtain ⟨b', hb', u', h1, h2, _, h4⟩ := I.hd i hi key r hm
      obtain rfl := T.un b hb b' hb' (0, ⟨r, [key], []⟩) (by rw [e]; simp) _ h1 key (by simp) h2
      exact hc (I.S.db _ _ h4).1
    exact ⟨at_ 0 (by omega), at_ 1 (by omega), at_ 2 (by omega)⟩
def worksOf (l : List PactNote) (g : K3 → Option Work) : Prop := ∀ k u, g k = some u → ∃ e ∈ l, e.Rec.Kind = 2 ∧ e.Rec.Txn.k = k ∧ e.Rec.Work = u
def partsOf (l : List PactNote) (g : K3 → Option Int) : Prop := ∀ x : Txn, (com l x → g x.k = some 2) ∧ (¬ com l x → g x.k = none)
theorem top_law {K : Nat} {B : List BT} {w : PW} (I : WInv 3 K B w) (T : TI B w) (hs : Shape B) (ho : ∀ i (h : i < w.ns.length), openL w.ns[i].cs = []) {g : K3 → Option Work} {f : K3 → Option Int} (hg : worksOf w.log g) (hf : partsOf w.log f) {k : K3} {u : Work} (hk : g k = some u) :
    ∃ (r : Int) (key : ByteArray), u = ⟨r, [key], []⟩ ∧ ((heldAt w key r 0 + heldAt w key r 1 + heldAt w key r 2 : Nat) : Int) = (f k).getD 0 := by
  obtain ⟨e, he, k2, ek, eu⟩ := hg k u hk
  obtain ⟨r, key, h1, h2, h3⟩ := top_held I T hs ho (eu ▸ (T.nt e he).1 k2)
  refine ⟨r, key, h1, ?_⟩
  subst ek
  by_cases hc : com w.log e.Rec.Txn
  · obtain ⟨a, b, c⟩ := h2 hc
    rw [a, b, c, (hf _).1 hc]; rfl
  · obtain ⟨a, b, c⟩ := h3 hc
    rw [a, b, c, (hf _).2 hc]; rfl
theorem worksOf.skip {l : List PactNote} {e : PactNote} {g : K3 → Option Work} (h : worksOf l g) : worksOf (l ++ [e]) g := fun k u hk => by
  obtain ⟨e', he, h1⟩ := h k u hk
  exact ⟨e', List.mem_append_left _ he, h1⟩
theorem worksOf.put {l : List PactNote} {e : PactNote} {g : K3 → Option Work} (h : worksOf l g) (hk : e.Rec.Kind = 2) : worksOf (l ++ [e]) (fun k => if e.Rec.Txn.k = k then some e.Rec.Work else g k) := fun k u hg => by
  dsimp only at hg
  split at hg
  · next ek => exact ⟨e, by simp, hk, ek, Option.some.inj hg⟩
  · exact h.skip k u hg
theorem partsOf.skip {l : List PactNote} {e : PactNote} {g : K3 → Option Int} (h : partsOf l g) (hk : e.Rec.Kind ≠ 4) : partsOf (l ++ [e]) g := fun x => by
  have : com (l ++ [e]) x ↔ com l x := by rw [com_snoc]; exact ⟨fun h => h.elim id fun h => absurd h.1 hk, .inl⟩
  rw [this]; exact h x
theorem partsOf.put {l : List PactNote} {e : PactNote} {g : K3 → Option Int} (h : partsOf l g) (hk : e.Rec.Kind = 4) : partsOf (l ++ [e]) (fun k => if e.Rec.Txn.k = k then some 2 else g k) := fun x => by
  rw [com_snoc]
  by_cases hx : e.Rec.Txn = x
  · subst hx
    exact ⟨fun _ => if_pos rfl, fun hn => absurd (.inr ⟨hk, rfl⟩) hn⟩
  · have hne : ¬ e.Rec.Txn.k = x.k := fun e => hx (k_inj e)
    dsimp only
    rw [if_neg hne]
    exact ⟨fun hc => (h x).1 (hc.elim id fun h => absurd h.2 hx), fun hn => (h x).2 fun hc => hn (.inl hc)⟩
theorem NtOk.parts {B : List BT} {e : PactNote} (h : NtOk B e) (hs : Shape B) (hk : e.Rec.Kind = 4) : e.Rec.Parts.length = 2 := by
  obtain ⟨b, hb, _, e2⟩ := h.2 hk
  rw [e2, hs.part hb]; rfl
end Go.Proofs.YtpphdbnifbjfmaaGreatDoor
