/- Whatever is played, a world keeps to its own. No program in sight. -/
import Derived.Test.YtpphdbnifbjfmaaGreatDoorJYF
set_option linter.unusedVariables false
set_option linter.unusedSimpArgs false
namespace Go.Proofs.YtpphdbnifbjfmaaGreatDoor
open Go Go.Sx Go.Proofs
theorem mem_sendL {l ms : List Message} {g : Message} (h : g ∈ sendL l ms) : g ∈ l ∨ g ∈ ms := by
  rw [sendL_eq] at h
  rcases List.mem_append.1 h with h | h
  · exact .inl h
  · exact .inr (List.mem_of_mem_take h)
theorem sendL_len {l ms : List Message} (h : l.length ≤ 64) : (sendL l ms).length ≤ 64 := by
  rw [sendL_eq, List.length_append, List.length_take]; omega
theorem mem_delM {l : List Message} {j : Nat} {g : Message} (h : g ∈ delM l j) : g ∈ l := by
  unfold delM at h
  rcases List.mem_append.1 h with h | h
  · exact List.mem_of_mem_take h
  · exact List.mem_of_mem_drop h
theorem delM_len {l : List Message} {j : Nat} : (delM l j).length ≤ l.length := by
  unfold delM; rw [List.length_append, List.length_take, List.length_drop]; omega
theorem cHear_tw {n : Nat} {s : CS} (I : CInv n s) {m : Message} {k : K3} {t' : TX} (h : mget k (cHear s m).s.ts = some t') (ho : t'.op = false) : ∃ t, mget k s.ts = some t ∧ t.op = false ∧ t'.works = t.works ∧ t'.began = t.began := by
  have hcut : ∀ {x : K3}, mget k (s.cut x).ts = some t' → ∃ t, mget k s.ts = some t ∧ t.op = false ∧ t'.works = t.works ∧ t'.began = t.began := fun {x} h => ⟨t', mget_mdel_some I.nd h, ho, rfl, rfl⟩
  have hput : ∀ {x : Txn} {t : TX}, s.isT x → (t.op = false → t.op = (s.tx x).op ∧ t.works = (s.tx x).works ∧ t.began = (s.tx x).began) → mget k (s.put x.k t).ts = some t' → ∃ t, mget k s.ts = some t ∧ t.op = false ∧ t'.works = t.works ∧ t'.began = t.began := fun {x t} hx hp h => by
    have h' : mget k (mset x.k t s.ts) = some t' := h
    rw [mget_mset] at h'
    split at h'
    · next e =>
      cases h'
      obtain ⟨g1, g2, g3⟩ := hp ho
      exact ⟨s.tx x, e ▸ CS.get_tx hx, g1 ▸ ho, g2, g3⟩
    · exact ⟨t', h', ho, rfl, rfl⟩
  unfold cHear at h
  split at h
  · exact ⟨t', h, ho, rfl, rfl⟩
  split at h
  · exact ⟨t', h, ho, rfl, rfl⟩
  split at h
  · exact hcut h
  split at h
  · next hh =>
    split at h
    · exact hput (t := hear1 (s.tx m.Txn) m.From) hh.2.1.1 (fun _ => ⟨rfl, rfl, rfl⟩) h
    · exact hput (t := openT (s.tx m.Txn)) hh.2.1.1 (fun h => by cases h) h
  split at h
  · next hh =>
    split at h
    · exact hput (t := hear1 (s.tx m.Txn) m.From) hh.2.1.1 (fun _ => ⟨rfl, rfl, rfl⟩) h
    · exact hcut h
  · exact ⟨t', h, ho, rfl, rfl⟩
theorem cHear_count {s : CS} {m : Message} : (cHear s m).s.count = s.count := by
  unfold cHear
  repeat' split
  all_goals rfl
theorem hear_held {K : Nat} {s : PS} {m : Message} {cs : List Value} (I : PInv K s) {key : ByteArray} {r : Int} (h : mget key (hearS s m cs).t.held = some r) :
    mget key s.t.held = some r ∨ (∃ u, gW s.t m.Txn.k = some u ∧ key ∈ u.Take ∧ r = u.Robot ∧ isD (hearS s m cs) m.Txn) := by
  rcases hear_cases s m with ⟨_, _, h3⟩ | ⟨_, _, _, _, _, _, h3⟩ | ⟨_, _, _, _, _, _, _, h3⟩ | ⟨_, _, _, _, _, _, _, h3⟩ | ⟨_, _, hp, _, _, h3⟩ | ⟨_, _, _, _, _, h3⟩
  · rw [h3] at h; exact .inl h
  · rw [h3] at h; exact .inl h
  · rw [h3] at h; exact .inl h
  · rw [h3] at h; exact .inl h
  · rw [h3] at h ⊢
    obtain ⟨u, hu⟩ := isP_iff.1 hp
    have h' : mget key (applyT s.t m.Txn m.Yes).held = some r := h
    rw [applyT_eq, hu] at h'
    simp only at h'
    unfold applyW at h'
    simp only at h'
    split at h'
    · next hy =>
      have g1 := (takeAll_get (r := u.Robot) (k := key) (ks := u.Take) (dropAll_get (r := u.Robot) (k := key) (ks := u.Drop) I.t.hd).2.1).1
      rw [g1] at h'
      split at h'
      · next hk =>
        cases h'
        refine .inr ⟨u, hu, hk, rfl, ?_⟩
        unfold isD
        show (mget m.Txn.k (if m.Yes = true then mset m.Txn.k (untilS s m.Txn) s.done else s.done)).isSome = true
        rw [if_pos hy, mget_mset, if_pos rfl]; rfl
      · rw [(dropAll_get (r := u.Robot) (k := key) (ks := u.Drop) I.t.hd).1] at h'
        split at h'
        · cases h'
        · exact .inl h'
    · exact .inl h'
  · rw [h3] at h; exact .inl h
theorem set_get {w : PW} {i j : Nat} {q : PN} (hj : j < (w.ns.set i q).length) : (w.ns.set i q)[j] = if i = j then q else w.ns[j]'(by rw [List.length_set] at hj; exact hj) := List.getElem_set ..
theorem HdOk.more {B B' : List BT} {w w' : PW} {i : Nat} {q : PN} (H : HdOk B w) (hi : i < w.ns.length) (hw : w'.ns = w.ns.set i q) (Nx : Nxt B B' (absW w) (absW w'))
    (hq : ∀ key r, mget key q.ps.t.held = some r → mget key w.ns[i].ps.t.held = some r ∨ ∃ b ∈ B', ∃ u : Work, ((i : Int), u) ∈ b.ws ∧ key ∈ u.Take ∧ r = u.Robot ∧ (absW w').dn i b.x) : HdOk B' w' := by
  intro j hj key r hr
  have hj' : j < w.ns.length := by rw [hw, List.length_set] at hj; exact hj
  simp only [hw] at hr
  rw [set_get] at hr
  have old : ∀ {j} (hj' : j < w.ns.length), mget key w.ns[j].ps.t.held = some r → ∃ b ∈ B', ∃ u : Work, ((j : Int), u) ∈ b.ws ∧ key ∈ u.Take ∧ r = u.Robot ∧ (absW w').dn j b.x := fun {j} hj' hr => by
    obtain ⟨b, hb, u, h1, h2, h3, h4⟩ := H j hj' key r hr
    exact ⟨b, Nx.b b hb, u, h1, h2, h3, Nx.d _ _ h4⟩
  by_cases e : i = j
  · subst e
    rw [if_pos rfl] at hr
    rcases hq key r hr with hr | hr
    · exact old hj' hr
    · exact hr
  · rw [if_neg e] at hr
    exact old hj' hr
theorem WInv.hear {n K : Nat} {B : List BT} {w w' : PW} {m : Message} {out nt : List Message} (I : WInv n K B w) (hj : JM B (absW w) m ∧ noWork m) (h : PHear w m w' out) (hn : ∀ g ∈ nt, g ∈ w.net ∨ g ∈ out) (hl : nt.length ≤ 64) : WInv n K B { w' with net := nt } := by
  obtain ⟨hok, _⟩ := I.msg hj
  have T := hear_turn I.N I.S hj.1 h
  have J' : ∀ g ∈ nt, JM B (absW w') g ∧ noWork g := fun g hg => by
    rcases hn g hg with hg | hg
    · exact ⟨(I.J g hg).1.next T.2.1, (I.J g hg).2⟩
    · exact T.2.2 g hg
  cases h with
  | part k i hm h cs =>
    have hN : NOk (K + 1) { setN w i ⟨hearS w.ns[i].ps m cs, w.ns[i].cs⟩ with log := w.log ++ noteL m.To (hearRec w.ns[i].ps m) } := I.N.set (Nat.le_succ K) h rfl (hearS_sh.trans (I.N.sh i h).1) (I.N.sh i h).2 ((I.N.P i h).hear hok) ((I.N.C i h).more (Nat.le_succ K))
    have hget : ∀ {j} (hj : j < (w.ns.set i ⟨hearS w.ns[i].ps m cs, w.ns[i].cs⟩).length), (w.ns.set i ⟨hearS w.ns[i].ps m cs, w.ns[i].cs⟩)[j].cs = (w.ns[j]'(by rw [List.length_set] at hj; exact hj)).cs := fun {j} hj => by
      rw [set_get]
      split
      · next e => subst e; rfl
      · rfl
    have hH : HdOk B { setN w i ⟨hearS w.ns[i].ps m cs, w.ns[i].cs⟩ with log := w.log ++ noteL m.To (hearRec w.ns[i].ps m) } := I.hd.more h rfl T.2.1 fun key r hr => by
      rcases hear_held (I.N.P i h) hr with hr | ⟨u, hu, h1, h2, h3⟩
      · exact .inl hr
      · right
        obtain ⟨b, hb, hx, hq⟩ := I.S.wb i m.Txn u (by rw [wk_at h]; exact hu)
        refine ⟨b, hb, u, hq, h1, h2, ?_⟩
        rw [hx]
        have := (abs_dn (q := ⟨hearS w.ns[i].ps m cs, w.ns[i].cs⟩) (l := w.log ++ noteL m.To (hearRec w.ns[i].ps m)) (nt := w.net) h i m.Txn).2
        rw [if_pos rfl] at this
        exact this h3
    refine ⟨(List.length_set ..).trans I.len, I.n4, ⟨hN.sh, fun j hj => ?_, fun j hj => ?_⟩, fun j hj => ?_, I.bl, I.k3, fun b hb => ?_, I.bw, T.1, fun j hj k' t hg ho => ?_, fun j hj k' t hg ho => ?_, hH, J', hl, I.now⟩
    · exact PInv.fit (w := { setN w i ⟨hearS w.ns[i].ps m cs, w.ns[i].cs⟩ with log := w.log ++ noteL m.To (hearRec w.ns[i].ps m) }) hj T.1 hH (fun b hb => ⟨(I.bw b hb).1, fun q hq => ((I.bw b hb).2 q hq).2.2⟩) (hN.P j hj) I.bl
    · show CInv K (w.ns.set i ⟨hearS w.ns[i].ps m cs, w.ns[i].cs⟩)[j].cs
      rw [hget hj]; exact I.N.C j _
    · show 1 ≤ (w.ns.set i ⟨hearS w.ns[i].ps m cs, w.ns[i].cs⟩)[j].cs.life ∧ (w.ns.set i ⟨hearS w.ns[i].ps m cs, w.ns[i].cs⟩)[j].cs.life ≤ K + 1
      rw [hget hj]; exact I.life j _
    · obtain ⟨j, hj, h1, h2, h3⟩ := I.bx b hb
      have hj' : j < (w.ns.set i ⟨hearS w.ns[i].ps m cs, w.ns[i].cs⟩).length := by rw [List.length_set]; exact hj
      refine ⟨j, hj', h1, h2, ?_⟩
      show b.x.Life ≤ (w.ns.set i ⟨hearS w.ns[i].ps m cs, w.ns[i].cs⟩)[j].cs.life ∧ (b.x.Life = (w.ns.set i ⟨hearS w.ns[i].ps m cs, w.ns[i].cs⟩)[j].cs.life → b.x.Count ≤ (w.ns.set i ⟨hearS w.ns[i].ps m cs, w.ns[i].cs⟩)[j].cs.count)
      rw [hget hj']; exact h3
    · have hg' : mget k' (w.ns.set i ⟨hearS w.ns[i].ps m cs, w.ns[i].cs⟩)[j].cs.ts = some t := hg
      rw [hget hj] at hg'
      exact I.W j _ k' t hg' ho
    · have hg' : mget k' (w.ns.set i ⟨hearS w.ns[i].ps m cs, w.ns[i].cs⟩)[j].cs.ts = some t := hg
      rw [hget hj] at hg'
      exact I.bg j _ k' t hg' ho
  | coord k i hm h =>
    have hN : NOk K { setN w i ⟨w.ns[i].ps, (cHear w.ns[i].cs m).s⟩ with log := w.log ++ noteL m.To (cHear w.ns[i].cs m).rc } := I.N.set (Nat.le_refl K) h rfl (I.N.sh i h).1 (cHear_node.trans (I.N.sh i h).2) (I.N.P i h) (I.N.C i h).hear
    have hH : HdOk B { setN w i ⟨w.ns[i].ps, (cHear w.ns[i].cs m).s⟩ with log := w.log ++ noteL m.To (cHear w.ns[i].cs m).rc } := I.hd.more h rfl T.2.1 fun key r hr => .inl hr
    have hlc : ∀ {j} (hj : j < (w.ns.set i ⟨w.ns[i].ps, (cHear w.ns[i].cs m).s⟩).length), (w.ns.set i ⟨w.ns[i].ps, (cHear w.ns[i].cs m).s⟩)[j].cs.life = (w.ns[j]'(by rw [List.length_set] at hj; exact hj)).cs.life ∧ (w.ns.set i ⟨w.ns[i].ps, (cHear w.ns[i].cs m).s⟩)[j].cs.count = (w.ns[j]'(by rw [List.length_set] at hj; exact hj)).cs.count := fun {j} hj => by
      rw [set_get]
      split
      · next e => subst e; exact ⟨cHear_life, cHear_count⟩
      · exact ⟨rfl, rfl⟩
    have hts : ∀ {j} (hj : j < (w.ns.set i ⟨w.ns[i].ps, (cHear w.ns[i].cs m).s⟩).length) {k' t'}, mget k' (w.ns.set i ⟨w.ns[i].ps, (cHear w.ns[i].cs m).s⟩)[j].cs.ts = some t' → t'.op = false → ∃ t, mget k' (w.ns[j]'(by rw [List.length_set] at hj; exact hj)).cs.ts = some t ∧ t.op = false ∧ t'.works = t.works ∧ t'.began = t.began := fun {j} hj {k' t'} hg ho => by
      rw [set_get] at hg
      split at hg
      · next e => subst e; exact cHear_tw (I.N.C i h) hg ho
      · exact ⟨t', hg, ho, rfl, rfl⟩
    refine ⟨(List.length_set ..).trans I.len, I.n4, ⟨hN.sh, hN.P, hN.C⟩, fun j hj => ?_, I.bl, I.k3, fun b hb => ?_, I.bw, T.1, fun j hj k' t hg ho => ?_, fun j hj k' t hg ho => ?_, hH, J', hl, I.now⟩
    · show 1 ≤ (w.ns.set i ⟨w.ns[i].ps, (cHear w.ns[i].cs m).s⟩)[j].cs.life ∧ (w.ns.set i ⟨w.ns[i].ps, (cHear w.ns[i].cs m).s⟩)[j].cs.life ≤ K + 1
      rw [(hlc hj).1]; exact I.life j _
    · obtain ⟨j, hj, h1, h2, h3⟩ := I.bx b hb
      have hj' : j < (w.ns.set i ⟨w.ns[i].ps, (cHear w.ns[i].cs m).s⟩).length := by rw [List.length_set]; exact hj
      refine ⟨j, hj', h1, h2, ?_⟩
      show b.x.Life ≤ (w.ns.set i ⟨w.ns[i].ps, (cHear w.ns[i].cs m).s⟩)[j].cs.life ∧ (b.x.Life = (w.ns.set i ⟨w.ns[i].ps, (cHear w.ns[i].cs m).s⟩)[j].cs.life → b.x.Count ≤ (w.ns.set i ⟨w.ns[i].ps, (cHear w.ns[i].cs m).s⟩)[j].cs.count)
      rw [(hlc hj').1, (hlc hj').2]; exact h3
    · obtain ⟨t0, g1, g2, g3, g4⟩ := hts hj hg ho
      obtain ⟨b, hb, e1, e2⟩ := I.W j _ k' t0 g1 g2
      exact ⟨b, hb, e1, by rw [g3]; exact e2⟩
    · obtain ⟨t0, g1, g2, g3, g4⟩ := hts hj hg ho
      show t.began ≤ w.now
      rw [g4]; exact I.bg j _ k' t0 g1 g2
theorem WInv.more {n K K' : Nat} {B : List BT} {w : PW} (I : WInv n K B w) (h : K ≤ K') (h3 : K' ≤ 300) : WInv n K' B w :=
  { I with N := ⟨I.N.sh, fun i hi => (I.N.P i hi).more h, fun i hi => (I.N.C i hi).more h⟩, life := fun i hi => by have := I.life i hi; omega, bl := Nat.le_trans I.bl h, k3 := h3 }
theorem WInv.less {n K : Nat} {B : List BT} {w : PW} (I : WInv n K B w) {nt : List Message} (hn : ∀ g ∈ nt, g ∈ w.net) (hl : nt.length ≤ 64) : WInv n K B { w with net := nt } :=
  { I with J := fun g hg => I.J g (hn g hg), nl := hl, N := ⟨I.N.sh, I.N.P, I.N.C⟩ }
theorem WInv.tick {n K : Nat} {B : List BT} {w : PW} (I : WInv n K B w) {a : Int} (h0 : 0 ≤ a) (h : a ≤ 1073741824 - w.now) : WInv n K B { w with now := w.now + a } := by
  have h1 := I.now
  exact { I with now := ⟨by show 0 ≤ w.now + a; omega, by show w.now + a ≤ _; omega⟩, bg := fun i hi k t hg ho => by have := I.bg i hi k t hg ho; show t.began ≤ w.now + a; omega, N := ⟨I.N.sh, I.N.P, I.N.C⟩ }
theorem WInv.step {n K : Nat} {B : List BT} {w : PW} (I : WInv n K B w) {i : Nat} (h : i < w.ns.length) {nt : List Message} (hn : ∀ g ∈ nt, g ∈ w.net ∨ g ∈ stepOut w.ns[i].cs w.now ++ askL w.ns[i].ps) (hl : nt.length ≤ 64) : WInv n K B { setN w i ⟨w.ns[i].ps, stepS w.ns[i].cs w.now⟩ with net := nt } := by
  have T := step_turn (now := w.now) I.N I.S I.W h
  have hN : NOk K (setN w i ⟨w.ns[i].ps, stepS w.ns[i].cs w.now⟩) := I.N.set (Nat.le_refl K) h rfl (I.N.sh i h).1 (I.N.sh i h).2 (I.N.P i h) (I.N.C i h).step
  have hlc : ∀ {j} (hj : j < (w.ns.set i ⟨w.ns[i].ps, stepS w.ns[i].cs w.now⟩).length), (w.ns.set i ⟨w.ns[i].ps, stepS w.ns[i].cs w.now⟩)[j].cs.life = (w.ns[j]'(by rw [List.length_set] at hj; exact hj)).cs.life ∧ (w.ns.set i ⟨w.ns[i].ps, stepS w.ns[i].cs w.now⟩)[j].cs.count = (w.ns[j]'(by rw [List.length_set] at hj; exact hj)).cs.count := fun {j} hj => by
    rw [set_get]
    split
    · next e => subst e; exact ⟨rfl, rfl⟩
    · exact ⟨rfl, rfl⟩
  have hts : ∀ {j} (hj : j < (w.ns.set i ⟨w.ns[i].ps, stepS w.ns[i].cs w.now⟩).length) {k' t'}, mget k' (w.ns.set i ⟨w.ns[i].ps, stepS w.ns[i].cs w.now⟩)[j].cs.ts = some t' → mget k' (w.ns[j]'(by rw [List.length_set] at hj; exact hj)).cs.ts = some t' := fun {j} hj {k' t'} hg => by
    rw [set_get] at hg
    split at hg
    · next e => subst e; exact ((stepS_get (I.N.C i h)).1 hg).1
    · exact hg
  have hH : HdOk B (setN w i ⟨w.ns[i].ps, stepS w.ns[i].cs w.now⟩) := I.hd.more h rfl T.2.1 fun key r hr => .inl hr
  refine ⟨(List.length_set ..).trans I.len, I.n4, ⟨hN.sh, hN.P, hN.C⟩, fun j hj => ?_, I.bl, I.k3, fun b hb => ?_, I.bw, T.1, fun j hj k' t hg ho => I.W j _ k' t (hts hj hg) ho, fun j hj k' t hg ho => I.bg j _ k' t (hts hj hg) ho, hH, fun g hg => ?_, hl, I.now⟩
  · show 1 ≤ (w.ns.set i ⟨w.ns[i].ps, stepS w.ns[i].cs w.now⟩)[j].cs.life ∧ (w.ns.set i ⟨w.ns[i].ps, stepS w.ns[i].cs w.now⟩)[j].cs.life ≤ K + 1
    rw [(hlc hj).1]; exact I.life j _
  · obtain ⟨j, hj, h1, h2, h3⟩ := I.bx b hb
    have hj' : j < (w.ns.set i ⟨w.ns[i].ps, stepS w.ns[i].cs w.now⟩).length := by rw [List.length_set]; exact hj
    refine ⟨j, hj', h1, h2, ?_⟩
    show b.x.Life ≤ (w.ns.set i ⟨w.ns[i].ps, stepS w.ns[i].cs w.now⟩)[j].cs.life ∧ (b.x.Life = (w.ns.set i ⟨w.ns[i].ps, stepS w.ns[i].cs w.now⟩)[j].cs.life → b.x.Count ≤ (w.ns.set i ⟨w.ns[i].ps, stepS w.ns[i].cs w.now⟩)[j].cs.count)
    rw [(hlc hj').1, (hlc hj').2]; exact h3
  · rcases hn g hg with hg | hg
    · exact ⟨(I.J g hg).1.next T.2.1, (I.J g hg).2⟩
    · exact T.2.2 g hg
theorem WInv.crash {n K m : Nat} {B : List BT} {w w' : PW} {i : Nat} (I : WInv n K B w) (hK : K < 300) (h : PCrash m w i w') : WInv n (K + 1) B w' := by
  have T := crash_turn I.N I.S h
  cases h with
  | mk h s' hs hP =>
    have hfl := I.life i h
    have hK3 := I.k3
    have hC : CInv (K + 1) (crashC w.ns[i].cs) := CInv.load (I.N.C i h).fn (by unfold fits; omega) (Nat.le_trans openL_len (Nat.le_trans (I.N.C i h).ln (Nat.le_succ K))) fun r hr => openL_ok (I.N.C i h) hr
    have hN : NOk (max m (K + 1)) { setN w i ⟨s', crashC w.ns[i].cs⟩ with net := Net.clr i w.net } := I.N.set (by omega) h rfl (hs.sh.trans (I.N.sh i h).1) (I.N.sh i h).2 (hP.more (by omega)) (hC.more (by omega))
    have hH : HdOk B { setN w i ⟨s', crashC w.ns[i].cs⟩ with net := Net.clr i w.net } := I.hd.more h rfl T.2 fun key r hr => .inl (by rw [← hs.h]; exact hr)
    have hts : ∀ {j} (hj : j < (w.ns.set i ⟨s', crashC w.ns[i].cs⟩).length) {k' t'}, mget k' (w.ns.set i ⟨s', crashC w.ns[i].cs⟩)[j].cs.ts = some t' → t'.op = false → mget k' (w.ns[j]'(by rw [List.length_set] at hj; exact hj)).cs.ts = some t' := fun {j} hj {k' t'} hg ho => by
      rw [set_get] at hg
      split at hg
      · next e =>
        exfalso
        have hg' : mget k' (crashC w.ns[i].cs).ts = some t' := hg
        rw [crash_ts (I.N.C i h)] at hg'
        cases hs2 : mget k' w.ns[i].cs.ts with
        | none => rw [hs2] at hg'; cases hg'
        | some t =>
          rw [hs2] at hg'
          simp only [Option.bind_some] at hg'
          split at hg'
          · cases hg'; cases ho
          · cases hg'
      · exact hg
    refine ⟨(List.length_set ..).trans I.len, I.n4, ⟨hN.sh, fun j hj => ?_, fun j hj => ?_⟩, fun j hj => ?_, Nat.le_succ_of_le I.bl, by omega, fun b hb => ?_, I.bw, T.1, fun j hj k' t hg ho => I.W j _ k' t (hts hj hg ho) ho, fun j hj k' t hg ho => I.bg j _ k' t (hts hj hg ho) ho, hH, fun g hg => ?_, ?_, I.now⟩
    · exact (PInv.fit (w := { setN w i ⟨s', crashC w.ns[i].cs⟩ with net := Net.clr i w.net }) hj T.1 hH (fun b hb => ⟨(I.bw b hb).1, fun q hq => ((I.bw b hb).2 q hq).2.2⟩) (hN.P j hj) I.bl).more (Nat.le_succ K)
    · show CInv (K + 1) (w.ns.set i ⟨s', crashC w.ns[i].cs⟩)[j].cs
      rw [set_get (w := w) (i := i) (q := ⟨s', crashC w.ns[i].cs⟩) hj]
      split
      · exact hC
      · exact (I.N.C j _).more (Nat.le_succ K)
    · show 1 ≤ (w.ns.set i ⟨s', crashC w.ns[i].cs⟩)[j].cs.life ∧ (w.ns.set i ⟨s', crashC w.ns[i].cs⟩)[j].cs.life ≤ ((K + 1 : Nat) : Int) + 1
      rw [set_get (w := w) (i := i) (q := ⟨s', crashC w.ns[i].cs⟩) hj]
      split
      · show 1 ≤ w.ns[i].cs.life + 1 ∧ w.ns[i].cs.life + 1 ≤ ((K + 1 : Nat) : Int) + 1
        omega
      · have := I.life j (by rw [show (setN w i ⟨s', crashC w.ns[i].cs⟩).ns = w.ns.set i ⟨s', crashC w.ns[i].cs⟩ from rfl, List.length_set] at hj; exact hj)
        omega
    · obtain ⟨j, hj, h1, h2, h3, h4⟩ := I.bx b hb
      have hj' : j < (w.ns.set i ⟨s', crashC w.ns[i].cs⟩).length := by rw [List.length_set]; exact hj
      refine ⟨j, hj', h1, h2, ?_⟩
      show b.x.Life ≤ (w.ns.set i ⟨s', crashC w.ns[i].cs⟩)[j].cs.life ∧ (b.x.Life = (w.ns.set i ⟨s', crashC w.ns[i].cs⟩)[j].cs.life → b.x.Count ≤ (w.ns.set i ⟨s', crashC w.ns[i].cs⟩)[j].cs.count)
      rw [set_get]
      split
      · next e =>
        subst e
        show b.x.Life ≤ w.ns[i].cs.life + 1 ∧ (b.x.Life = w.ns[i].cs.life + 1 → b.x.Count ≤ 0)
        exact ⟨by omega, fun e => by omega⟩
      · exact ⟨h3, h4⟩
    · have hg' := (List.mem_filter.1 hg).1
      exact ⟨(I.J g hg').1.next T.2, (I.J g hg').2⟩
    · exact Nat.le_trans (List.length_filter_le _ _) I.nl
end Go.Proofs.YtpphdbnifbjfmaaGreatDoor
