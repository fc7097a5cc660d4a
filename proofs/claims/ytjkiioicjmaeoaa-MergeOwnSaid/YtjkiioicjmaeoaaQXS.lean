/- A company: what a communication leaves of what is held. No program in sight. -/
import Derived.Test.YtjkiioicjmaeoaaQXR
import Derived.Conc.TokenTrace
set_option linter.unusedVariables false
set_option linter.unusedSimpArgs false
namespace Go.X
open Go Go.Sx Go.Conc Go.ConcN
open Go.ConcR (KK wgBlock WgAt stA smA rd wr mk Payload Bk)
section
variable {P : Program} {Post : Value → World → Prop} {W0 : World}
theorem take_own {o : Own4} {sz : Nat} {t : Trace} (hA : o.Apart sz) (h : TOk o sz t) (hw : ∀ y a b, touchAt t y = some a → blk a.loc = some b → o.win b ≠ none → Knows t 0 y) :
    Own4.Apart { o with M := ConcN.upd o.M 0 (join (o.M 0) o.win), win := Heap.empty } sz ∧ TOk { o with M := ConcN.upd o.M 0 (join (o.M 0) o.win), win := Heap.empty } sz t := by
  have hj : ∀ b, join (o.M 0) o.win b ≠ none → o.M 0 b ≠ none ∨ o.win b ≠ none := fun b hb => by
    simp only [join] at hb
    cases hm : o.M 0 b with
    | some v => exact .inl (by simp)
    | none => rw [hm] at hb; exact .inr hb
  constructor
  · refine ⟨fun g g' b hne hb => ?_, fun g b hb => ?_, fun b hb => ⟨rfl, (hA.base b hb).2⟩, fun b hb => absurd rfl hb, hA.lv, hA.sh, hA.ac⟩
    · simp only [ConcN.upd] at hb ⊢
      by_cases e : g = 0
      · subst e
        rw [if_pos rfl] at hb
        rw [if_neg (Ne.symm hne)]
        rcases hj b hb with h1 | h1
        · exact hA.own 0 g' b hne h1
        · cases hM : o.M g' b with
          | none => rfl
          | some v => exact absurd (hA.mem g' b (by rw [hM]; simp)).2.1 h1
      · rw [if_neg e] at hb
        by_cases e' : g' = 0
        · subst e'
          rw [if_pos rfl]
          have h1 := hA.own g 0 b hne hb
          have h2 := (hA.mem g b hb).2.1
          simp [join, h1, h2]
        · rw [if_neg e']; exact hA.own g g' b hne hb
    · simp only [ConcN.upd] at hb
      by_cases e : g = 0
      · subst e
        rw [if_pos rfl] at hb
        rcases hj b hb with h1 | h1
        · have := hA.mem 0 b h1; exact ⟨this.1, rfl, this.2.2⟩
        · have h2 := hA.win b h1
          refine ⟨?_, rfl, h2⟩
          cases hB : o.base b with
          | none => rfl
          | some v => exact absurd (hA.base b (by rw [hB]; simp)).1 h1
      · rw [if_neg e] at hb
        have := hA.mem g b hb; exact ⟨this.1, rfl, this.2.2⟩
  · refine h.turn (Nat.le_refl _) (fun g b hb => ?_) (fun b hb => .inl ⟨hb, fun g hg => .inl hg, fun g hg => .inl hg, fun g r hr => hr⟩) (fun b hb => absurd rfl hb) (fun b hb => .inl ⟨hb, fun g hg => .inl hg⟩) (fun g hg => .inl hg) (fun g r hr => hr)
    simp only [ConcN.upd] at hb
    by_cases e : g = 0
    · subst e
      rw [if_pos rfl] at hb
      rcases hj b hb with h1 | h1
      · exact .inl h1
      · exact .inr fun i a ha hb' => hw i a b ha hb' h1
    · rw [if_neg e] at hb; exact .inl hb
theorem comm1 {f f' : Cf} {a a' : Goroutine} {x x' : XW Gh} {j : Nat} {u : Trace} (h : Inv1 P Post W0 f a x) (hj1 : 1 ≤ j) (hk : f'.k = f.k) (hsz : f'.gs.size = f.gs.size) (henv : Env W0 f'.w) (hmain : ∃ r, f'.gs[0]? = some r ∧ MRec P W0 a' x' f'.mb r)
    (hgs : ∀ i, 1 ≤ i → i ≠ j → f'.gs[i]? = f.gs[i]?) (hph : ∀ i, i ≠ j → f'.ph i = f.ph i) (hF : ∀ i, i ≠ j → f'.F i = f.F i)
    (hj : (f'.ph j = f.ph j ∧ f'.gs[j]? = f.gs[j]? ∧ f'.F j = f.F j) ∨ ∃ pk pk', f.ph j = .A pk ∧ f'.ph j = .A pk' ∧ (∃ r, f'.gs[j]? = some r ∧ RA P Post W0 (f'.F j) pk' r) ∧ MIp P Post W0 (f'.F j).1 (f'.F j).2 ∧ (f'.F j).2.m = (f.F j).2.m)
    (ht : f'.t = f.t ++ u) (hq : ∀ op ∈ u, ∀ g d, deafStep g d op = d) (hd : deafOf x'.s = deafOf x.s) (hok : f'.o.k = f.o.k) (hM : ∀ i, 1 ≤ i → f'.o.M i = f.o.M i) (hM0 : f'.o.M 0 = x'.m) (hlv : f'.o.lv = f.o.lv) (hcp : f'.o.cp = f.o.cp)
    (hap : f'.o.Apart f'.w.heap.size) (hmem : ∀ i, (f'.o.M i).le (rp f'.w)) (hb : f'.o.base.le (rp f'.w)) (hw : f'.o.win.le (rp f'.w)) (htok : TOk f'.o f'.w.heap.size f'.t) : Inv1 P Post W0 f' a' x' := by
  have hDf : ∀ g, Deaf f'.t g = Deaf f.t g := fun g => by rw [ht]; exact Deaf_quiet fun op hop d => hq op hop g d
  have hA : ∀ i, ((f'.ph i).isA ↔ (f.ph i).isA) ∧ ((f'.ph i).isQ ↔ (f.ph i).isQ) ∧ ((f'.ph i).isL ↔ (f.ph i).isL) := fun i => by
    by_cases e : i = j
    · subst e
      rcases hj with ⟨h1, _⟩ | ⟨pk, pk', h1, h2, _⟩
      · rw [h1]; exact ⟨Iff.rfl, Iff.rfl, Iff.rfl⟩
      · rw [h1, h2]; exact ⟨Iff.rfl, Iff.rfl, Iff.rfl⟩
    · rw [hph i e]; exact ⟨Iff.rfl, Iff.rfl, Iff.rfl⟩
  refine ⟨by rw [hsz, hk]; exact h.size, henv, hmain, fun i pk h1 h2 hp => ?_, fun i q h1 h2 hp => ?_, fun i h1 h2 hp => ?_, by rw [hDf, hd]; exact h.d0, fun i h1 h2 hp => by rw [hDf]; exact h.da i h1 (hk ▸ h2) ((hA i).1.1 hp), by rw [hok, hk]; exact h.ok, hM0, fun i h1 h2 hp => ?_, fun i h1 h2 => ?_,
    fun i => ?_, fun i => ?_, hap, hmem, hb, hw, htok⟩
  · by_cases e : i = j
    · subst e
      rcases hj with ⟨e1, e2, e3⟩ | ⟨p, p', e1, e2, e3, _⟩
      · rw [e2, e3]; exact h.ra i pk h1 (hk ▸ h2) (e1 ▸ hp)
      · rw [e2] at hp; cases hp; exact e3
    · rw [hgs i h1 e, hF i e]; exact h.ra i pk h1 (hk ▸ h2) (hph i e ▸ hp)
  · rw [hDf]
    by_cases e : i = j
    · subst e
      rcases hj with ⟨e1, e2, e3⟩ | ⟨p, p', e1, e2, e3, _⟩
      · rw [e2]; exact h.rq i q h1 (hk ▸ h2) (e1 ▸ hp)
      · rw [e2] at hp; cases hp
    · rw [hgs i h1 e]; exact h.rq i q h1 (hk ▸ h2) (hph i e ▸ hp)
  · by_cases e : i = j
    · subst e
      rcases hj with ⟨e1, e2, e3⟩ | ⟨p, p', e1, e2, e3, e4, _⟩
      · rw [e3]; exact h.mi i h1 (hk ▸ h2) ((hA i).1.1 hp)
      · exact e4
    · rw [hF i e]; exact h.mi i h1 (hk ▸ h2) ((hA i).1.1 hp)
  · rw [hM i h1]
    by_cases e : i = j
    · subst e
      rcases hj with ⟨e1, e2, e3⟩ | ⟨p, p', e1, e2, e3, e4, e5⟩
      · rw [e3]; exact h.oMa i h1 (hk ▸ h2) ((hA i).1.1 hp)
      · rw [e5]; exact h.oMa i h1 (hk ▸ h2) ((hA i).1.1 hp)
    · rw [hF i e]; exact h.oMa i h1 (hk ▸ h2) ((hA i).1.1 hp)
  · rw [hM i h1]
    exact h.oMn i h1 (h2.imp (fun hh => hk ▸ hh) fun hh hp => hh ((hA i).1.2 hp))
  · rw [hlv, h.lv i, hk, (hA i).2.2]
  · rw [hcp, h.cp i, hk, (hA i).2.1]
theorem relBy_mute {ad : Addr} {t u : Trace} {k r : Nat} (h : RelBy ad t k r) (hu : ∀ op ∈ u, op.act.touch? = none) : RelBy ad (t ++ u) k r :=
  h.app fun i hi hg ⟨x, hx, _⟩ => by
    obtain ⟨op, ho, hoa⟩ := touch_of hx
    rcases getElem?_append_cases ho with ⟨hlt, _⟩ | ⟨_, hou⟩
    · omega
    · rw [hu op hou] at hoa; cases hoa
theorem take2 {f f' : Cf} {x x' : XW Gh} {c : Co} {j0 i : Nat} {s s' : Snd} {u : Trace} (h : Inv2 P f x c j0) (hst : c.st = .run) (hs : c.snd[i]? = some s) (hch : s'.ch = s.ch) (hwn : c.wn = true → i + 1 = c.snd.length)
    (hmb : f.mb ≠ .blk) (hmb' : f'.mb = .run) (hk : f'.k = f.k) (hph : ∀ j, f'.ph j = f.ph j ∨ (j = j0 + 1 + i ∧ ∃ p, f.ph j = .A p ∧ f'.ph j = .A false)) (hF : ∀ j, j ≠ j0 + 1 + i → f'.F j = f.F j)
    (ho : f'.o.base = f.o.base ∧ f'.o.win = Heap.empty ∧ f'.o.Sh = f.o.Sh ∧ f'.o.rl = f.o.rl ∧ f'.o.ac = f.o.ac) (hheap : ∀ b, b ≠ s.ch → f'.w.heap[b]? = f.w.heap[b]?) (hbase : ∀ b, c.base b ≠ none → ¬ f.o.Sh b) (ht : f'.t = f.t ++ u)
    (hu : ∀ op ∈ u, op.act.touch? = none ∧ (∀ g d, deafStep g d op = d) ∧ op.act ≠ .mark (.release (stA c.wg))) (hgs : ∀ j s g d, 1 ≤ j → f.ph j = .B s g d → f'.gs[j]? = f.gs[j]?)
    (hcha : ∀ pk, f'.ph (j0 + 1 + i) = .A pk → ∃ q, (f'.F (j0 + 1 + i)).2.s = .snd q ∧ q.ty = c.ty ∧ q.ech = c.ech ∧ q.wg = c.wg ∧ q.base = c.base ∧ q.ch = s.ch ∧ (q.off = false → q.rem = s'.rem) ∧ (q.off = true → c.shut = true) ∧ (q.closed = true → q.rem = [] ∨ q.off = true) ∧ q.fst = false ∧ (∃ n, f'.w.heap[s.ch]? = some (.chan 0 #[] q.closed n n false)) ∧ (q.closed = true → ∃ p, f.t.act? p = some (.close s.ch) ∧ f.t.heard p))
    (hchb : ¬ (f.ph (j0 + 1 + i)).isA → (s'.rem = [] ∨ c.shut = true) ∧ (∃ n, f'.w.heap[s.ch]? = some (.chan 0 #[] true n n false))) :
    Inv2 P f' x' { c with win := Heap.empty, wn := false, snd := c.snd.set i s' } j0 := by
  have hset : ∀ {i' : Nat} {z : Snd}, (c.snd.set i s')[i']? = some z → (i' = i ∧ z = s') ∨ (i' ≠ i ∧ c.snd[i']? = some z) := fun {i' z} hz => by
    rw [List.getElem?_set] at hz
    split at hz
    · rename_i e; subst e
      split at hz
      · cases hz; exact .inl ⟨rfl, rfl⟩
      · cases hz
    · rename_i e; exact .inr ⟨fun e' => e e'.symm, hz⟩
  have hset' : ∀ {i' : Nat} {z : Snd}, (c.snd.set i s')[i']? = some z → ∃ z0, c.snd[i']? = some z0 ∧ z0.ch = z.ch := fun {i' z} hz => by
    rcases hset hz with ⟨rfl, rfl⟩ | ⟨_, h1⟩
    · exact ⟨s, hs, hch.symm⟩
    · exact ⟨z, h1, rfl⟩
  have hL : ∀ j, (f'.ph j).isL ↔ (f.ph j).isL := fun j => by
    rcases hph j with e | ⟨_, p, e1, e2⟩
    · rw [e]
    · rw [e1, e2]; exact Iff.rfl
  have hA : ∀ j, (f'.ph j).isA ↔ (f.ph j).isA := fun j => by
    rcases hph j with e | ⟨_, p, e1, e2⟩
    · rw [e]
    · rw [e1, e2]; exact Iff.rfl
  have hD : f'.D = f.D := by
    funext j
    rcases hph (j + 1) with e | ⟨_, p, e1, e2⟩
    · simp [Cf.D, e]
    · simp [Cf.D, e1, e2, Ph.wd]
  have hB : ∀ {j s g d}, f'.ph j = .B s g d → f.ph j = .B s g d := fun {j s g d} hp => by
    rcases hph j with e | ⟨_, p, e1, e2⟩
    · rw [← e]; exact hp
    · rw [e2] at hp; cases hp
  obtain ⟨k1, k2, k3, k4⟩ := h.ch i s hs
  obtain ⟨o1, o2, o3, o4, o5⟩ := ho
  have hDf : ∀ g, Deaf f'.t g = Deaf f.t g := fun g => by rw [ht]; exact Deaf_quiet fun op hop d => (hu op hop).2.1 g d
  have hcl : ∀ {ch : Nat}, (∃ p, f.t.act? p = some (.close ch) ∧ f.t.heard p) → ∃ p, f'.t.act? p = some (.close ch) ∧ f'.t.heard p := fun {ch} ⟨p, e1, e2⟩ => by
    have hp := lt_of_act? e1
    rw [ht]
    exact ⟨p, by rw [act?_old hp]; exact e1, (heard_old hp).2 e2⟩
  have hmode : ∃ st sm, WgAt c.ty c.wg f'.w st sm ∧ ConcN.Mode f.k f.D (tagOf false c.st) st sm := by
    obtain ⟨st, sm, e1, e2⟩ := h.mode
    refine ⟨st, sm, (hheap _ (Ne.symm k3)).trans e1, ?_⟩
    cases hh : f.mb with
    | blk => exact absurd hh hmb
    | run => rw [hh] at e2; exact e2
    | park _ => rw [hh] at e2; exact e2
  refine ⟨by rw [hk, List.length_set]; exact h.k, fun j hj hle => ?_, by rw [o1]; exact h.base, o2, fun hh => (by cases hh), fun _ => rfl, ⟨by rw [o3]; exact h.ech.1, ?_⟩, by rw [o3]; exact h.wg, by rw [hmb', hk, hD]; exact hmode, fun i' hi' => (by rw [hmb'] at hi'; cases hi'), fun n hn => ?_, h.shut, ?_,
    fun i' z hz => ?_, fun j h1 h2 hp => ?_, fun i' z pk hz hp => ?_, fun i' z hz hp => ?_, fun j s g d hp hj hi => ?_, fun j s g d hp hj hi hs => ?_, fun j r hr => ?_, ?_, fun hd j r hr => ?_, by rw [List.length_set]; exact h.few, fun i' z hz => ?_⟩
  · rcases hph j with e | ⟨e, _⟩
    · rw [e]; exact h.old j hj hle
    · omega
  · obtain ⟨n, r, e⟩ := h.ech.2
    exact ⟨n, r, by rw [hheap _ (Ne.symm k2)]; exact e⟩
  · replace hn : c.st = .w0 n := hn
    rw [hst] at hn; cases hn
  · show openAt c.shut false c.st
    rw [hst]; trivial
  · obtain ⟨z0, e1, e2⟩ := hset' hz
    obtain ⟨b1, b2, b3, b4⟩ := h.ch i' z0 e1
    refine ⟨by rw [o3, ← e2]; exact b1, e2 ▸ b2, e2 ▸ b3, fun i'' z'' hz'' hh => ?_⟩
    obtain ⟨z1, e3, e4⟩ := hset' hz''
    exact b4 i'' z1 e3 (by rw [e4, hh, e2])
  · rcases hph j with e | ⟨_, p, _, e⟩
    · exact h.pk j h1 (hk ▸ h2) (e ▸ hp)
    · rw [e] at hp; cases hp
  · rcases hset hz with ⟨rfl, rfl⟩ | ⟨hne, hz'⟩
    · obtain ⟨q, q1, q2, q3, q4, q5, q6, q7, q8, q9, q10, q11, q12⟩ := hcha pk hp
      refine ⟨q, q1, q2, q3, q4, q5, by rw [hch]; exact q6, q7, q8, q9, fun hh => (by rw [q10] at hh; cases hh), by rw [hch]; exact q11, fun hh => ?_⟩
      obtain ⟨p, e1, e2⟩ := hcl (q12 hh)
      exact ⟨p, by rw [hch]; exact e1, e2, fun hh => by cases hh⟩
    · have hp' : f.ph (j0 + 1 + i') = .A pk := by
        rcases hph (j0 + 1 + i') with e | ⟨e, _⟩
        · rw [← e]; exact hp
        · omega
      obtain ⟨q, q1, q2, q3, q4, q5, q6, q7, q8, q9, q10, q11, q12⟩ := h.cha i' z pk hz' hp'
      have hzs : z.ch ≠ s.ch := fun e => hne (k4 i' z hz' e)
      refine ⟨q, by rw [hF _ (by omega)]; exact q1, q2, q3, q4, q5, q6, q7, q8, q9, fun hh => ?_, by rw [hheap _ hzs]; exact q11, fun hh => ?_⟩
      · obtain ⟨b1, b2, _⟩ := q10 hh
        have := hwn b1
        omega
      · obtain ⟨p, e1, e2, _⟩ := q12 hh
        obtain ⟨p, e1, e2⟩ := hcl ⟨p, e1, e2⟩
        exact ⟨p, e1, e2, fun hh => by cases hh⟩
  · rcases hset hz with ⟨rfl, rfl⟩ | ⟨hne, hz'⟩
    · have hp' : ¬ (f.ph (j0 + 1 + i')).isA := fun hh => hp ((hA _).2 hh)
      obtain ⟨b1, b2⟩ := hchb hp'
      obtain ⟨_, _, p, e1, e2, _⟩ := h.chb i' s hs hp'
      obtain ⟨p, e1, e2⟩ := hcl ⟨p, e1, e2⟩
      exact ⟨b1, by rw [hch]; exact b2, p, by rw [hch]; exact e1, e2, fun hh => by cases hh⟩
    · have hp' : ¬ (f.ph (j0 + 1 + i')).isA := fun hh => hp ((hA _).2 hh)
      have hzs : z.ch ≠ s.ch := fun e => hne (k4 i' z hz' e)
      obtain ⟨b1, b2, p, e1, e2, _⟩ := h.chb i' z hz' hp'
      obtain ⟨p, e1, e2⟩ := hcl ⟨p, e1, e2⟩
      exact ⟨b1, by rw [hheap _ hzs]; exact b2, p, e1, e2, fun hh => by cases hh⟩
  · have hp' := hB hp
    obtain ⟨b1, r, b2, b3⟩ := h.b j s g d hp' hj (hk ▸ hi)
    refine ⟨by rw [hDf]; exact b1, r, by rw [hgs j s g d (by omega) hp']; exact b2, ?_⟩
    obtain ⟨C, cs, T, fz, v, y1, y2, y3, y4⟩ := b3.rely (w' := f'.w) (fun b hb => hheap b fun e => hbase b hb (e ▸ k1)) (fun _ => let ⟨st, sm, e1, _⟩ := hmode; ⟨st, sm, e1⟩) fun h7 => sm_same (i := j - 1) (by have := hk ▸ hi; omega) (by subst h7; simp only [Cf.D, Nat.sub_add_cancel (show 1 ≤ j by omega), hp', Ph.wd]) h.mode hmode
    exact ⟨C, cs, T, fz, v, y1, y2, y3, y4⟩
  · rw [o4]; exact h.b7 j s g d (hB hp) hj (hk ▸ hi) hs
  · rw [o4] at hr
    obtain ⟨r1, r2, r3, r4⟩ := h.rel j r hr
    refine ⟨r1, by rw [hk]; exact r2, fun hh => r3 ((hL _).1 hh), by rw [ht]; exact relBy_mute r4 fun op hop => (hu op hop).1⟩
  · exact h.nor.app ht (fun i r hr => by rw [o4] at hr; exact hr) (fun i r hr => h.rel_lt hr) fun op hop => (hu op hop).2.2
  · replace hd : c.st = .done := hd
    rw [hst] at hd; cases hd
  · obtain ⟨z0, y1, y2⟩ := hset' hz
    rw [o5, ← y2]; exact h.ac i' z0 y1
end
end Go.X
