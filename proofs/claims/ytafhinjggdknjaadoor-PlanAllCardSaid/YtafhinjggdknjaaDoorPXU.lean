/- A company: a sender hands a value to the starter; the starter finds a channel closed. No program in sight. -/
import Derived.Test.YtafhinjggdknjaaDoorPXR
import Derived.Conc.TokenTrace
set_option linter.unusedVariables false
set_option linter.unusedSimpArgs false
namespace Go.X
open Go Go.Sx Go.Conc Go.ConcN
open Go.ConcR (KK wgBlock WgAt stA smA rd wr mk Payload Bk)
section
variable {P : Program} {Post : Value → World → Prop} {W0 : World}
theorem give_own {o : Own4} {sz j : Nat} {t : Trace} {D mj : Heap} (hA : o.Apart sz) (h : TOk o sz t) (hj : j ≠ 0) (hD : D.le (o.M j)) (hm : mj.le (o.M j)) (hd : Disj mj D) (hw : ∀ y a b, touchAt t y = some a → blk a.loc = some b → D b ≠ none → Knows t 0 y) :
    Own4.Apart { o with M := ConcN.upd (ConcN.upd o.M j mj) 0 (union (o.M 0) D) } sz ∧ TOk { o with M := ConcN.upd (ConcN.upd o.M j mj) 0 (union (o.M 0) D) } sz t := by
  have inM : ∀ {b : Nat}, D b ≠ none → o.M j b ≠ none := fun {b} hb => by
    cases e : D b with
    | none => exact absurd e hb
    | some v => rw [hD b v e]; simp
  have inM' : ∀ {b : Nat}, mj b ≠ none → o.M j b ≠ none := fun {b} hb => by
    cases e : mj b with
    | none => exact absurd e hb
    | some v => rw [hm b v e]; simp
  have was : ∀ g b, ConcN.upd (ConcN.upd o.M j mj) 0 (union (o.M 0) D) g b ≠ none → (g = 0 ∧ D b ≠ none ∧ o.M j b ≠ none) ∨ (o.M g b ≠ none ∧ (g = j → D b = none)) := fun g b hb => by
    simp only [ConcN.upd] at hb
    by_cases e : g = 0
    · subst e
      rw [if_pos rfl] at hb
      rcases union_ne hb with h1 | h1
      · exact .inr ⟨h1, fun e => absurd e.symm hj⟩
      · exact .inl ⟨rfl, h1, inM h1⟩
    · rw [if_neg e] at hb
      by_cases e2 : g = j
      · subst e2
        rw [if_pos rfl] at hb
        exact .inr ⟨inM' hb, fun _ => (hd b).resolve_left hb⟩
      · rw [if_neg e2] at hb
        exact .inr ⟨hb, fun e => absurd e e2⟩
  constructor
  · refine ⟨fun g g' b hne hb => ?_, fun g b hb => ?_, hA.base, hA.win, hA.lv, hA.sh, hA.ac⟩
    · by_cases hb' : ConcN.upd (ConcN.upd o.M j mj) 0 (union (o.M 0) D) g' b = none
      · exact hb'
      · exfalso
        rcases was g b hb with ⟨e1, e2, e3⟩ | ⟨e2, e3⟩ <;> rcases was g' b hb' with ⟨f1, f2, f3⟩ | ⟨f2, f3⟩
        · exact hne (e1.trans f1.symm)
        · by_cases e : g' = j
          · exact e2 (f3 e)
          · exact f2 (hA.own j g' b (Ne.symm e) e3)
        · by_cases e : g = j
          · exact f2 (e3 e)
          · exact e2 (hA.own j g b (Ne.symm e) f3)
        · exact f2 (hA.own g g' b hne e2)
    · rcases was g b hb with ⟨_, _, e3⟩ | ⟨e2, _⟩
      · exact hA.mem j b e3
      · exact hA.mem g b e2
  · refine h.turn (Nat.le_refl _) (fun g b hb => ?_) (fun b hb => .inl ⟨hb, fun g hg => .inl hg, fun g hg => .inl hg, fun g r hr => hr⟩) (fun b hb => .inl ⟨hb, rfl⟩) (fun b hb => .inl ⟨hb, fun g hg => .inl hg⟩) (fun g hg => .inl hg) (fun g r hr => hr)
    rcases was g b hb with ⟨rfl, e2, _⟩ | ⟨e2, _⟩
    · exact .inr fun i a ha hb' => hw i a b ha hb' e2
    · exact .inl e2
theorem comm1 {f f' : Cf} {a a' : Goroutine} {x x' : XW Gh} {j : Nat} {u : Trace} (h : Inv1 P Post W0 f a x) (hj1 : 1 ≤ j) (hjk : j ≤ f.k) (hk : f'.k = f.k) (hsz : f'.gs.size = f.gs.size) (henv : Env W0 f'.w) (hmain : ∃ r, f'.gs[0]? = some r ∧ MRec P W0 a' x' f'.mb r)
    (hgs : ∀ i, 1 ≤ i → i ≠ j → f'.gs[i]? = f.gs[i]?) (hph : ∀ i, i ≠ j → f'.ph i = f.ph i) (hF : ∀ i, i ≠ j → f'.F i = f.F i)
    (hj : ∃ pk pk', f.ph j = .A pk ∧ f'.ph j = .A pk' ∧ (∃ r, f'.gs[j]? = some r ∧ RA P Post W0 (f'.F j) pk' r) ∧ MIp P Post W0 (f'.F j).1 (f'.F j).2 ∧ f'.o.M j = (f'.F j).2.m)
    (ht : f'.t = f.t ++ u) (hq : ∀ op ∈ u, ∀ g d, deafStep g d op = d) (hd : deafOf x'.s = deafOf x.s) (hok : f'.o.k = f.o.k) (hM : ∀ i, 1 ≤ i → i ≠ j → f'.o.M i = f.o.M i) (hM0 : f'.o.M 0 = x'.m) (hlv : f'.o.lv = f.o.lv) (hcp : f'.o.cp = f.o.cp)
    (hap : f'.o.Apart f'.w.heap.size) (hmem : ∀ i, (f'.o.M i).le (rp f'.w)) (hb : f'.o.base.le (rp f'.w)) (hw : f'.o.win.le (rp f'.w)) (htok : TOk f'.o f'.w.heap.size f'.t) : Inv1 P Post W0 f' a' x' := by
  have hDf : ∀ g, Deaf f'.t g = Deaf f.t g := fun g => by rw [ht]; exact Deaf_quiet fun op hop d => hq op hop g d
  have hA : ∀ i, ((f'.ph i).isA ↔ (f.ph i).isA) ∧ ((f'.ph i).isQ ↔ (f.ph i).isQ) ∧ ((f'.ph i).isL ↔ (f.ph i).isL) := fun i => by
    by_cases e : i = j
    · subst e
      obtain ⟨pk, pk', h1, h2, _⟩ := hj
      rw [h1, h2]; exact ⟨Iff.rfl, Iff.rfl, Iff.rfl⟩
    · rw [hph i e]; exact ⟨Iff.rfl, Iff.rfl, Iff.rfl⟩
  refine ⟨by rw [hsz, hk]; exact h.size, henv, hmain, fun i pk h1 h2 hp => ?_, fun i q h1 h2 hp => ?_, fun i h1 h2 hp => ?_, by rw [hDf, hd]; exact h.d0, fun i h1 h2 hp => by rw [hDf]; exact h.da i h1 (hk ▸ h2) ((hA i).1.1 hp), by rw [hok, hk]; exact h.ok, hM0, fun i h1 h2 hp => ?_, fun i h1 h2 => ?_,
    fun i => ?_, fun i => ?_, hap, hmem, hb, hw, htok⟩
  · by_cases e : i = j
    · subst e
      obtain ⟨p, p', e1, e2, e3, _⟩ := hj
      rw [e2] at hp; cases hp; exact e3
    · rw [hgs i h1 e, hF i e]; exact h.ra i pk h1 (hk ▸ h2) (hph i e ▸ hp)
  · rw [hDf]
    by_cases e : i = j
    · subst e
      obtain ⟨p, p', e1, e2, e3, _⟩ := hj
      rw [e2] at hp; cases hp
    · rw [hgs i h1 e]; exact h.rq i q h1 (hk ▸ h2) (hph i e ▸ hp)
  · by_cases e : i = j
    · subst e
      obtain ⟨p, p', e1, e2, e3, e4, _⟩ := hj
      exact e4
    · rw [hF i e]; exact h.mi i h1 (hk ▸ h2) ((hA i).1.1 hp)
  · by_cases e : i = j
    · subst e
      obtain ⟨p, p', e1, e2, e3, e4, e5⟩ := hj
      exact e5
    · rw [hM i h1 e, hF i e]; exact h.oMa i h1 (hk ▸ h2) ((hA i).1.1 hp)
  · by_cases e : i = j
    · subst e
      obtain ⟨p, p', e1, e2, e3, e4, e5⟩ := hj
      rcases h2 with h2 | h2
      · have := h.oMn i h1 (.inl (hk ▸ h2))
        exfalso
        exact absurd (hjk) (by rw [hk] at h2; omega)
      · rw [e2] at h2; exact absurd trivial h2
    · rw [hM i h1 e]
      exact h.oMn i h1 (h2.imp (fun hh => hk ▸ hh) fun hh hp => hh ((hA i).1.2 hp))
  · rw [hlv, h.lv i, hk, (hA i).2.2]
  · rw [hcp, h.cp i, hk, (hA i).2.1]
theorem relBy_mute {ad : Addr} {t u : Trace} {k r : Nat} (h : RelBy ad t k r) (hu : ∀ op ∈ u, op.act.touch? = none) : RelBy ad (t ++ u) k r :=
  h.app fun i hi hg ⟨x, hx, _⟩ => by
    obtain ⟨op, ho, hoa⟩ := touch_of hx
    rcases getElem?_append_cases ho with ⟨hlt, _⟩ | ⟨_, hou⟩
    · omega
    · rw [hu op hou] at hoa; cases hoa
theorem meet2 {f f' : Cf} {x x' : XW Gh} {c : Co} {j0 i nx ch : Nat} {o o' : Option Nat} {u : Trace} (h : Inv2 P f x c j0) (hst : c.st = .run) (hsh : c.shut = false) (ho : c.wk[i]? = some o) (hch : ch = c.cy.dl ∨ ch = c.cy.dn)
    (hmb : f.mb ≠ .blk) (hmb' : f'.mb = .run) (hk : f'.k = f.k) (hph : ∀ j, f'.ph j = f.ph j ∨ (j = j0 + 1 + i ∧ ∃ p, f.ph j = .A p ∧ f'.ph j = .A false)) (hF : ∀ j, j ≠ j0 + 1 + i → f'.F j = f.F j)
    (hoo : f'.o.base = f.o.base ∧ f'.o.win = f.o.win ∧ f'.o.Sh = f.o.Sh ∧ f'.o.rl = f.o.rl ∧ f'.o.ac = f.o.ac) (hheap : ∀ b, b ≠ ch → f'.w.heap[b]? = f.w.heap[b]?) (hself : ∃ n, f'.w.heap[ch]? = some (.chan 0 #[] false n n false)) (hbase : ∀ b, c.cy.base b ≠ none → ¬ f.o.Sh b) (ht : f'.t = f.t ++ u)
    (hu : ∀ op ∈ u, op.act.touch? = none ∧ (∀ g d, deafStep g d op = d) ∧ op.act ≠ .mark (.release (stA c.cy.wg))) (hgs : ∀ j s g d, 1 ≤ j → f.ph j = .B s g d → f'.gs[j]? = f.gs[j]?)
    (hcha : ∃ q, (f'.F (j0 + 1 + i)).2.s = .snd q ∧ q.cy = c.cy ∧ q.job = o' ∧ q.off = false ∧ q.lo ≤ nx) (hnx : c.nx ≤ nx) :
    Inv2 P f' x' { c with nx := nx, wk := c.wk.set i o' } j0 := by
  have hset : ∀ {i' : Nat} {z : Option Nat}, (c.wk.set i o')[i']? = some z → (i' = i ∧ z = o') ∨ (i' ≠ i ∧ c.wk[i']? = some z) := fun {i' z} hz => by
    rw [List.getElem?_set] at hz
    split at hz
    · rename_i e; subst e
      split at hz
      · cases hz; exact .inl ⟨rfl, rfl⟩
      · cases hz
    · rename_i e; exact .inr ⟨fun e' => e e'.symm, hz⟩
  have hL : ∀ j, (f'.ph j).isL ↔ (f.ph j).isL := fun j => by
    rcases hph j with e | ⟨_, p, e1, e2⟩
    · rw [e]
    · rw [e1, e2]; exact Iff.rfl
  have hA : ∀ j, (f'.ph j).isA ↔ (f.ph j).isA := fun j => by
    rcases hph j with e | ⟨_, p, e1, e2⟩
    · rw [e]
    · rw [e1, e2]; exact Iff.rfl
  have hD : f'.D = f.D := by
    funext j
    rcases hph (j + 1) with e | ⟨_, p, e1, e2⟩
    · simp [Cf.D, e]
    · simp [Cf.D, e1, e2, Ph.wd]
  have hB : ∀ {j s g d}, f'.ph j = .B s g d → f.ph j = .B s g d := fun {j s g d} hp => by
    rcases hph j with e | ⟨_, p, e1, e2⟩
    · rw [← e]; exact hp
    · rw [e2] at hp; cases hp
  obtain ⟨o1, o2, o3, o4, o5⟩ := hoo
  have hchSh : f.o.Sh ch := by rcases hch with e | e <;> subst e; exact h.dl.1; exact h.dn.1
  have hchwg : c.cy.wg ≠ ch := by rcases hch with e | e <;> subst e; exact h.ne.2.1; exact h.ne.2.2
  have hDf : ∀ g, Deaf f'.t g = Deaf f.t g := fun g => by rw [ht]; exact Deaf_quiet fun op hop d => (hu op hop).2.1 g d
  have hmode : ∃ st sm, WgAt c.cy.ty c.cy.wg f'.w st sm ∧ ConcN.Mode f.k f.D (tagOf false c.st) st sm := by
    obtain ⟨st, sm, e1, e2⟩ := h.mode
    refine ⟨st, sm, (hheap _ hchwg).trans e1, ?_⟩
    cases hh : f.mb with
    | blk => exact absurd hh hmb
    | run => rw [hh] at e2; exact e2
    | park _ => rw [hh] at e2; exact e2
  have chan : ∀ b, (b = c.cy.dl ∨ b = c.cy.dn) → (∃ n, f.w.heap[b]? = some (.chan 0 #[] false n n false)) → ∃ n, f'.w.heap[b]? = some (.chan 0 #[] false n n false) := fun b hb ⟨n, hn⟩ => by
    by_cases e : b = ch
    · subst e; exact hself
    · exact ⟨n, by rw [hheap b e]; exact hn⟩
  refine ⟨by rw [hk, List.length_set]; exact h.k, fun j hj hle => ?_, by rw [o1]; exact h.base, by rw [o2]; exact h.win, ⟨by rw [o3]; exact h.dl.1, ?_⟩, ⟨by rw [o3]; exact h.dn.1, chan _ (.inr rfl) h.dn.2⟩, by rw [o3]; exact h.wg, h.ne, by rw [hmb', hk, hD]; exact hmode, fun live hi' => (by rw [hmb'] at hi'; cases hi'), fun n hn => ?_, h.shut,
    fun j h1 h2 hp => ?_, fun hs => ?_, fun i' z pk hz hp => ?_, fun i' z hz hp => ?_, fun j s g d hp hj hi => ?_, fun j s g d hp hj hi hs => ?_, fun j r hr => ?_, ?_, fun hd j r hr => ?_, by rw [List.length_set]; exact h.few, fun i' hi' => ?_⟩
  · rcases hph j with e | ⟨e, _⟩
    · rw [e]; exact h.old j hj hle
    · omega
  · show ∃ n, f'.w.heap[c.cy.dl]? = some (.chan 0 #[] c.shut n n false)
    have := h.dl.2
    rw [hsh] at this ⊢
    exact chan _ (.inl rfl) this
  · replace hn : c.st = .w0 n := hn
    rw [hst] at hn; cases hn
  · rcases hph j with e | ⟨_, p, _, e⟩
    · exact h.pk j h1 (hk ▸ h2) (e ▸ hp)
    · rw [e] at hp; cases hp
  · replace hs : c.shut = true := hs
    rw [hsh] at hs; cases hs
  · rcases hset hz with ⟨rfl, rfl⟩ | ⟨hne, hz'⟩
    · obtain ⟨q, q1, q2, q3, q4⟩ := hcha
      exact ⟨q, q1, q2, q3, ⟨fun hh => (by rw [q4.1] at hh; cases hh), q4.2⟩⟩
    · have hp' : f.ph (j0 + 1 + i') = .A pk := by
        rcases hph (j0 + 1 + i') with e | ⟨e, _⟩
        · rw [← e]; exact hp
        · omega
      obtain ⟨q, q1, q2, q3, q4⟩ := h.cha i' z pk hz' hp'
      exact ⟨q, by rw [hF _ (by omega)]; exact q1, q2, q3, ⟨q4.1, Nat.le_trans q4.2 hnx⟩⟩
  · rcases hset hz with ⟨rfl, rfl⟩ | ⟨hne, hz'⟩
    · exact h.chb i' o ho fun hh => hp ((hA _).2 hh)
    · exact h.chb i' z hz' fun hh => hp ((hA _).2 hh)
  · have hp' := hB hp
    obtain ⟨b1, r, b2, b3⟩ := h.b j s g d hp' hj (hk ▸ hi)
    refine ⟨by rw [hDf]; exact b1, r, by rw [hgs j s g d (by omega) hp']; exact b2, ?_⟩
    exact b3.rely (w' := f'.w) (fun b hb => hheap b fun e => hbase b hb (e ▸ hchSh)) (fun _ => let ⟨st, sm, e1, _⟩ := hmode; ⟨st, sm, e1⟩) fun h7 => sm_same (i := j - 1) (by have := hk ▸ hi; omega) (by subst h7; simp only [Cf.D, Nat.sub_add_cancel (show 1 ≤ j by omega), hp', Ph.wd]) h.mode hmode
  · rw [o4]; exact h.b7 j s g d (hB hp) hj (hk ▸ hi) hs
  · rw [o4] at hr
    obtain ⟨r1, r2, r3, r4⟩ := h.rel j r hr
    refine ⟨r1, by rw [hk]; exact r2, fun hh => r3 ((hL _).1 hh), by rw [ht]; exact relBy_mute r4 fun op hop => (hu op hop).1⟩
  · exact h.nor.app ht (fun i r hr => by rw [o4] at hr; exact hr) (fun i r hr => h.rel_lt hr) fun op hop => (hu op hop).2.2
  · replace hd : c.st = .done := hd
    rw [hst] at hd; cases hd
  · rw [List.length_set] at hi'; rw [o5]; exact h.ac i' hi'
end
end Go.X
namespace Go.X
open Go Go.Sx Go.Conc Go.ConcN
open Go.ConcR (KK wgBlock WgAt stA smA rd wr mk Payload Bk)
theorem knows_met {t : Trace} {h j : Nat} {fh : FuncId} {ph : String} {fj : FuncId} {pj : String} {c k cap : Nat} (hh : Deaf t h = 0) (hj : Deaf t j = 0) {y : Nat} (hk : Knows t h y) : Knows (t ++ met h j fh ph fj pj c k cap) j y := by
  have e0 : (t ++ met h j fh ph fj pj c k cap)[t.size]? = some { g := h, fn := fh, pos := ph, act := .send c k } := by simp [met]
  have e3 : (t ++ met h j fh ph fj pj c k cap)[t.size + 3]? = some { g := j, fn := fj, pos := pj, act := .recvDone c k } := by simp [met]
  have edge : HappensBefore (t ++ met h j fh ph fj pj c k cap) t.size (t.size + 3) :=
    Relation.TransGen.single (.inr ⟨.handOver (act?_of e0) (act?_of e3), ⟨h, g?_of e0, by rw [deaf_old (Nat.le_refl _)]; exact hh⟩, ⟨j, g?_of e3, by rw [deaf_quiet (met_quiet _ _ _ _ _ _ _ _ _ j) 3 (by simp [met])]; exact hj⟩⟩)
  exact ⟨t.size + 3, _, e3, rfl, .inr ((hk.hb_new (Nat.le_refl _) e0 rfl).trans edge)⟩
theorem setChan_size (w : World) (c a : Nat) (b : Array Value) (d : Bool) (s r : Nat) (tm : Bool) : (w.setChan c a b d s r tm).heap.size = w.heap.size := by simp [World.setChan]
section
variable {P : Program} {Post : Value → World → Prop} {W0 : World}
abbrev meetNext (f : Cf) (gs' : Array Goroutine) (j : Nat) (y : Goroutine × XW Gh) (ch n d : Nat) (D : Heap) (u : Trace) : Cf :=
  { f with gs := gs', w := (f.w.at d).setChan ch 0 #[] false (n + 1) (n + 1) false, t := f.t ++ u, mb := .run, F := ConcN.upd f.F j y, ph := ConcN.upd f.ph j (.A false), o := { f.o with M := ConcN.upd (ConcN.upd f.o.M j y.2.m) 0 (union (f.o.M 0) D) } }
theorem meet {f : Cf} {a g' y' : Goroutine} {m mj mj' D : Heap} {c : Co} {j0 i n d ch nx : Nat} {o : Option Nat} {pk : Bool} {q q' : Cs} {gs' : Array Goroutine} {u : Trace}
    (h1 : Inv1 P Post W0 f a ⟨m, .co c⟩) (h2 : Inv2 P f ⟨m, .co c⟩ c j0) (hmb : f.mb ≠ .blk) (hst : c.st = .run) (hsh : c.shut = false) (ho : c.wk[i]? = some o) (hp : f.ph (j0 + 1 + i) = .A pk)
    (hF : (f.F (j0 + 1 + i)).2 = ⟨mj, .snd q⟩) (hq : q'.cy = q.cy ∧ q'.off = q.off ∧ q'.lo ≤ nx ∧ c.nx ≤ nx) (hch : ch = c.cy.dl ∨ ch = c.cy.dn) (hn : f.w.heap[ch]? = some (.chan 0 #[] false n n false))
    (hD : D.le mj) (hm' : mj'.le mj) (hd : Disj mj' D)
    (hy : MIp P Post W0 y' ⟨mj', .snd q'⟩) (hg : MIp P Post W0 g' ⟨union m D, .co { c with nx := nx, wk := c.wk.set i q'.job }⟩)
    (hu : ∀ op ∈ u, op.act.touch? = none ∧ (∀ g d, deafStep g d op = d) ∧ op.act ≠ .mark (.release (stA c.cy.wg)) ∧ op.g ≤ f.k) (hkn : ∀ y, (∃ b, D b ≠ none) → Knows f.t (j0 + 1 + i) y → Knows (f.t ++ u) 0 y)
    (hsz : gs'.size = f.gs.size) (h0 : gs'[0]? = some g') (hj : gs'[j0 + 1 + i]? = some y') (hgs : ∀ k, k ≠ 0 → k ≠ j0 + 1 + i → gs'[k]? = f.gs[k]?) :
    Inv P Post W0 (meetNext f gs' (j0 + 1 + i) (y', ⟨mj', .snd q'⟩) ch n d D u) g' ⟨union m D, .co { c with nx := nx, wk := c.wk.set i q'.job }⟩ := by
  have hlen : i < c.wk.length := (List.getElem?_eq_some_iff.1 ho).1
  have hik : j0 + 1 + i ≤ f.k := by rw [h2.k]; omega
  obtain ⟨q0, q1, q2, q3, q4⟩ := h2.cha i o pk ho hp
  rw [hF] at q1
  cases q1
  have hm0 : f.o.M 0 = m := h1.oM0
  have hMj : f.o.M (j0 + 1 + i) = mj := by rw [h1.oMa _ (by omega) hik (by rw [hp]; trivial), hF]
  have hchSh : f.o.Sh ch := by rcases hch with e | e <;> subst e; exact h2.dl.1; exact h2.dn.1
  have hne : ∀ b, b ≠ ch → ((f.w.at d).setChan ch 0 #[] false (n + 1) (n + 1) false).heap[b]? = f.w.heap[b]? := fun b hb => heap_setChan_ne (w := f.w.at d) _ _ _ _ _ _ (Ne.symm hb)
  have hself : ((f.w.at d).setChan ch 0 #[] false (n + 1) (n + 1) false).heap[ch]? = some (.chan 0 #[] false (n + 1) (n + 1) false) := heap_setChan_self (w := f.w.at d) hn _ _ _ _ _ _
  have htok := h1.tok.still (u := u) fun op hop => ⟨by rw [h1.ok]; exact (hu op hop).2.2.2, (hu op hop).1⟩
  obtain ⟨t1, t2⟩ := give_own (t := f.t ++ u) (j := j0 + 1 + i) (D := D) (mj := mj') h1.apart htok (by omega) (by rw [hMj]; exact hD) (by rw [hMj]; exact hm') hd fun y ad b ha hb hDb => by
    rcases touch_cases ha with ⟨_, ha'⟩ | ⟨_, op, hop, _, hoa⟩
    · refine hkn y ⟨b, hDb⟩ (h1.tok.own _ y ad b ha' hb ?_)
      rw [hMj]
      cases e : D b with
      | none => exact absurd e hDb
      | some v => rw [hD b v e]; simp
    · rw [(hu op hop).1] at hoa; cases hoa
  have keep : ∀ (H : Heap), H.le (rp f.w) → (∀ b, H b ≠ none → ¬ f.o.Sh b) → H.le (rp ((f.w.at d).setChan ch 0 #[] false (n + 1) (n + 1) false)) := fun H hH hd b o hb => by
    show ((f.w.at d).setChan ch 0 #[] false (n + 1) (n + 1) false).heap[b]? = some o
    rw [hne b fun e => hd b (by rw [hb]; simp) (e ▸ hchSh)]; exact hH b o hb
  have hszw : ((f.w.at d).setChan ch 0 #[] false (n + 1) (n + 1) false).heap.size = f.w.heap.size := setChan_size _ _ _ _ _ _ _ _
  refine ⟨comm1 (j := j0 + 1 + i) (u := u) h1 (by omega) hik rfl hsz ⟨h1.env.os, h1.env.tape, h1.env.out⟩ ⟨g', h0, .run (.refl (mi_running hg))⟩ (fun k hk hne => hgs k (by omega) hne) (fun k hk => upd_ne _ _ hk) (fun k hk => upd_ne _ _ hk)
    ⟨pk, false, hp, ConcN.upd_same _ _ _, ⟨y', hj, ?_⟩, ?_, ?_⟩ rfl (fun op hop => (hu op hop).2.1) (by simp [deafOf]) rfl (fun k hk hkj => ?_) ?_ rfl rfl (by rw [hszw]; exact t1) (fun k => ?_) ?_ ?_ (by rw [hszw]; exact t2), j0, ?_⟩
  · show RA P Post W0 (ConcN.upd f.F _ _ _) false y'
    rw [ConcN.upd_same]; exact .run (.refl (mi_running hy))
  · show MIp P Post W0 (ConcN.upd f.F _ _ _).1 (ConcN.upd f.F _ _ _).2
    rw [ConcN.upd_same]; exact hy
  · show ConcN.upd (ConcN.upd f.o.M (j0 + 1 + i) mj') 0 (union (f.o.M 0) D) (j0 + 1 + i) = (ConcN.upd f.F _ _ _).2.m
    rw [ConcN.upd_same, upd_ne _ _ (by omega), ConcN.upd_same]
  · show ConcN.upd (ConcN.upd f.o.M (j0 + 1 + i) mj') 0 (union (f.o.M 0) D) k = f.o.M k
    rw [upd_ne _ _ (by omega), upd_ne _ _ hkj]
  · show ConcN.upd (ConcN.upd f.o.M (j0 + 1 + i) mj') 0 (union (f.o.M 0) D) 0 = union m D
    rw [ConcN.upd_same, hm0]
  · refine keep _ ?_ fun b hb => (t1.mem k b hb).2.2.1
    intro b v hb
    simp only [ConcN.upd] at hb
    split at hb
    · rcases union_cases hb with e | ⟨_, e⟩
      · exact h1.mem 0 b v e
      · exact h1.mem (j0 + 1 + i) b v (by rw [hMj]; exact hD b v e)
    · split at hb
      · exact h1.mem (j0 + 1 + i) b v (by rw [hMj]; exact hm' b v hb)
      · exact h1.mem k b v hb
  · exact keep _ h1.mbase fun b hb => (h1.apart.base b hb).2.1
  · exact keep _ h1.mwin fun b hb => (h1.apart.win b hb).1
  · refine meet2 (o' := q'.job) (u := u) h2 hst hsh ho hch hmb rfl rfl (fun k => ?_) (fun k hk => upd_ne _ _ hk) ⟨rfl, rfl, rfl, rfl, rfl⟩ hne ⟨_, hself⟩ (fun b hb => (h1.apart.base b (by rw [h2.base]; exact hb)).2.1) rfl
      (fun op hop => ⟨(hu op hop).1, (hu op hop).2.1, (hu op hop).2.2.1⟩) (fun k z gg dd hk hpk => hgs k (by omega) fun e => ?_) ⟨q', ?_, hq.1.trans q2, rfl, ?_, hq.2.2.1⟩ hq.2.2.2
    · by_cases e : k = j0 + 1 + i
      · subst e; exact .inr ⟨rfl, pk, hp, ConcN.upd_same _ _ _⟩
      · exact .inl (upd_ne _ _ e)
    · rw [e, hp] at hpk; cases hpk
    · show (ConcN.upd f.F _ _ _).2.s = _
      rw [ConcN.upd_same]
    · rw [hq.2.1]
      cases e : q.off with
      | false => rfl
      | true => have := q4.1 e; rw [hsh] at this; cases this
end
end Go.X
