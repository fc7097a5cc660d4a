/- A company: a sender's turn: what it leaves of what is held. No program in sight. -/
import Derived.Test.YtjkiioicjmaeoaaQXU
set_option linter.unusedVariables false
set_option linter.unusedSimpArgs false
namespace Go.X
open Go Go.Sx Go.Conc Go.ConcN
open Go.ConcR (KK wgBlock WgAt stA smA rd wr mk Payload Bk)
section
variable {P : Program} {Post : Value → World → Prop} {W0 : World}
def EndsR (P : Program) (Post : Value → World → Prop) (f : Cf) (i : Nat) : Prop := ∀ f0 : Cf, f0.gs = f.gs → f0.t = f.t → stepT P (crowd f0.gs f0.w f0.sl) = runT P (crowd f.gs f.w f.sl) i → Ends P Post f0
theorem EndsR.of {f f' : Cf} {i : Nat} {ops : Trace} (h : runT P (crowd f.gs f.w f.sl) i = (.next (crowd f'.gs f'.w f'.sl), ops)) (ht : f'.t = f.t ++ ops) (he : Ends P Post f') : EndsR P Post f i :=
  fun f0 _ e hs => ends_step (hs.trans h) (by rw [ht, e]) he
structure Waits (P : Program) (Post : Value → World → Prop) (W0 : World) (f f' : Cf) (a : Goroutine) (x : XW Gh) (i : Nat) : Prop where
  inv : Inv P Post W0 f' a x
  k : f'.k = f.k
  F : f'.F = f.F
  S : f'.S = f.S
  N : f'.N < f.N
  ends : Ends P Post f' → EndsR P Post f i
abbrev Tm (P : Program) (Post : Value → World → Prop) (W0 : World) (a : Goroutine) (x : XW Gh) : Prop := ∀ f, Inv P Post W0 f a x → Ends P Post f
theorem ofEvents_nil (g : Nat) (fn : FuncId) (pos : String) : MemOp.ofEvents g fn pos #[] = #[] := by rw [ofEvents_eq]; simp
theorem main_recv {f : Cf} {a : Goroutine} {m : Heap} {c : Co} {i : Nat} {s : Snd} {z : Value} (h : Inv P Post W0 f a ⟨m, .co c⟩) (hmb : f.mb = .run) {r : Goroutine} (hr : f.gs[0]? = some r) (hl : Like P a r)
    (hst : c.st = .run) (hsh : c.shut = false) (hs : c.snd[i]? = some s) (hwn : c.wn = true → i + 1 = c.snd.length) (hrun : a.status = .running)
    (hcm : ∀ w, Env W0 w → m.le (rp w) → stepG P true a w = .comm a #[rcase s.ch z] true (.recv true) w #[])
    (hnil : s.rem = [] → MIp P Post W0 (Go.Conc.served a (.tuple #[z, .bool false])) ⟨join m c.win, .co { c with win := Heap.empty, wn := false }⟩ ∧ Tm P Post W0 (Go.Conc.served a (.tuple #[z, .bool false])) ⟨join m c.win, .co { c with win := Heap.empty, wn := false }⟩)
    (hcons : ∀ y ys, s.rem = y :: ys → MIp P Post W0 (Go.Conc.served a (.tuple #[y, .bool true])) ⟨join m c.win, .co { c with win := Heap.empty, wn := false, snd := c.snd.set i ⟨s.ch, ys⟩ }⟩ ∧ Tm P Post W0 (Go.Conc.served a (.tuple #[y, .bool true])) ⟨join m c.win, .co { c with win := Heap.empty, wn := false, snd := c.snd.set i ⟨s.ch, ys⟩ }⟩) :
    EndsR P Post f 0 ∨ ∃ f', Waits P Post W0 f f' a ⟨m, .co c⟩ 0 := by
  obtain ⟨h1, j0, h2⟩ := id h
  have hlen : i < c.snd.length := (List.getElem?_eq_some_iff.1 hs).1
  have hik : j0 + 1 + i ≤ f.k := by rw [h2.k]; omega
  obtain ⟨k1, k2, k3, k4⟩ := h2.ch i s hs
  have hm0 : m.le (rp f.w) := by have := h1.mem 0; rwa [h1.oM0] at this
  have hstep : stepG P (0 == 0) r f.w = .comm a #[rcase s.ch z] true (.recv true) f.w #[] := by rw [show ((0 : Nat) == 0) = true from rfl, hl.step]; exact hcm _ h1.env hm0
  have hmb' : f.mb ≠ .blk := by rw [hmb]; simp
  have h0 : 0 < f.gs.size := by rw [h1.size]; omega
  have closed : (∃ n, f.w.heap[s.ch]? = some (.chan 0 #[] true n n false)) → s.rem = [] → (∃ p, f.t.act? p = some (.close s.ch) ∧ f.t.heard p ∧ (c.wn = true → i + 1 = c.snd.length → ∀ y a b, touchAt f.t y = some a → blk a.loc = some b → c.win b ≠ none → Knows f.t 0 y ∨ Before f.t y p)) →
      (∀ pk q, f.ph (j0 + 1 + i) = .A pk → (f.F (j0 + 1 + i)).2.s = .snd q → q.closed = true) → EndsR P Post f 0 := by
    rintro ⟨n, hn⟩ hrem hclo hcl
    obtain ⟨hg, hT⟩ := hnil hrem
    have hpn : partners (f.gs.setIfInBounds 0 ph) s.ch true = [] := senders_none h1 h2 fun i' s' hs' hp' e => by
      have := k4 i' s' hs' e
      subst this
      obtain ⟨rj, _, hc⟩ := h1.ra _ true (by omega) hik hp'
      rcases hc with ⟨hf, _⟩ | ⟨_, q, v, vs, z1, z2, q1, q2, q3, q4, _⟩
      · cases hf
      · rw [hcl true q hp' q1] at q4; cases q4
    have hrunT := crowd_recv_closed (sl := f.sl) hr hstep hn hpn
    rw [finishComm_recv, ofEvents_nil] at hrunT
    have hinv := found (g' := Go.Conc.served a (.tuple #[z, .bool false])) (fj := a.frame.fn) (pj := a.frame.place) (gs' := f.gs.setIfInBounds 0 (Go.Conc.served a (.tuple #[z, .bool false]))) h1 h2 hmb' hst hs hwn hclo hg hcl (by simp) (by simp [h0]) (fun k hk => by rw [Array.getElem?_setIfInBounds_ne (Ne.symm hk)])
    exact .of (f' := shutNext f (f.gs.setIfInBounds 0 (Go.Conc.served a (.tuple #[z, .bool false]))) #[{ g := 0, fn := a.frame.fn, pos := a.frame.place, act := .recvClosed s.ch }]) (by simpa [recvd] using hrunT) rfl (hT _ hinv)
  cases hp : f.ph (j0 + 1 + i) with
  | A pk =>
    cases pk with
    | false =>
      obtain ⟨q, q1, q2, q3, q4, q5, q6, q7, q8, q9, q10, q11, q12⟩ := h2.cha i s false hs hp
      cases hcl : q.closed with
      | false =>
        obtain ⟨f', e1, e2, e3, e4, e5, e6, e7⟩ := recv_wait h hmb hr hl hst hsh hs hwn hrun hcm fun j1 h3 => by
          have : j1 = j0 := by have := h2.k; have := h3.k; omega
          subst this
          exact ⟨q, hp, q1, hcl⟩
        exact .inr ⟨f', e3, e4, e5, e6, e7, fun he => .of e1 e2 he⟩
      | true =>
        have hoff : q.off = false := by
          cases hh : q.off with
          | false => rfl
          | true => rw [q8 hh] at hsh; cases hsh
        rw [hcl] at q11
        refine .inl (closed q11 ?_ (q12 hcl) fun pk q' _ hq' => ?_)
        · rw [← q7 hoff]; exact (q9 hcl).resolve_right (by simp [hoff])
        · rw [q1] at hq'; cases hq'; exact hcl
    | true =>
      obtain ⟨rj, hrj, hc⟩ := h1.ra _ true (by omega) hik hp
      rcases hc with ⟨hf, _⟩ | ⟨_, q, v, vs, z1, z2, q1, q2, q3, q4, q5, q6, rfl, q7⟩
      · cases hf
      obtain ⟨q', p1, p2, p3, p4, p5, p6, p7, p8, p9, p10, ⟨n, p11⟩, p12⟩ := h2.cha i s true hs hp
      rw [q1] at p1; cases p1
      rw [q4] at p11
      have hrem : s.rem = v :: vs := by rw [← p7 q3]; exact q2
      obtain ⟨hg, hT⟩ := hcons v vs hrem
      have hpart : partners (f.gs.setIfInBounds 0 ph) s.ch true = [(j0 + 1 + i, 0)] := by
        rw [partners_one (stand_get (by omega) hrj) fun k x hk hx => ?_, p6, offers_two_send, if_pos rfl]; rfl
        rcases getElem?_stand _ _ _ _ hx with ⟨_, rfl⟩ | ⟨hne, hx'⟩
        · exact offersAt_ph _ _
        · exact (offers_snd h1 h2 (by omega) (size_lt h1 hx') hx').1 s.ch fun i' s' hs' e hp' e' => by
            have := k4 i' s' hs' e'
            subst this
            exact hk e
      have hrunT := recv_meets_two (sl := f.sl) hr hstep p11 (by omega) (p6 ▸ hrj) hpart
      rw [finishComm_recv, ofEvents_nil, ← p6] at hrunT
      have hinv := meet (g' := Go.Conc.served a (.tuple #[v, .bool true])) (fh := (f.F (j0 + 1 + i)).1.frame.fn) (ph := (f.F (j0 + 1 + i)).1.frame.place) (fj := a.frame.fn) (pj := a.frame.place)
        (gs' := (f.gs.setIfInBounds (j0 + 1 + i) ((f.F (j0 + 1 + i)).1.finishComm P (two q.ch q.ech v z1 z2) .select 0 undef false)).setIfInBounds 0 (Go.Conc.served a (.tuple #[v, .bool true]))) (n := n) (mj := (f.F (j0 + 1 + i)).2.m)
        h1 h2 hmb' hst hsh hs hwn hp (q := q) (by rw [← q1]) q2 q3 q4 p11 q7 hg (by simp) (by simp [h0]) (by
          have hlt := (Array.getElem?_eq_some_iff.1 hrj).1
          rw [Array.getElem?_setIfInBounds_ne (by omega), Array.getElem?_setIfInBounds_self_of_lt hlt]) (fun k hk hk' => by rw [Array.getElem?_setIfInBounds_ne (Ne.symm hk), Array.getElem?_setIfInBounds_ne (Ne.symm hk')])
      exact .inl (.of (f' := meetNext f _ _ _ s.ch n _) (by simpa [recvd, met, ← p6] using hrunT) rfl (hT _ hinv))
  | B s' g d =>
    obtain ⟨b1, b2, b3⟩ := h2.chb i s hs (by rw [hp]; exact id)
    exact .inl (closed b2 (b1.resolve_right (by simp [hsh])) b3 fun pk q hh => by rw [hp] at hh; cases hh)
  | Q q =>
    obtain ⟨b1, b2, b3⟩ := h2.chb i s hs (by rw [hp]; exact id)
    exact .inl (closed b2 (b1.resolve_right (by simp [hsh])) b3 fun pk q hh => by rw [hp] at hh; cases hh)
end
end Go.X
namespace Go.X
open Go Go.Sx Go.Conc Go.ConcN
open Go.ConcR (KK wgBlock WgAt stA smA rd wr mk Payload Bk)
section
variable {P : Program} {Post : Value → World → Prop} {W0 : World}
theorem mode_mb {k : Nat} {D : Nat → WD} {st : Stg} {mb mb' : MB} {s0 sm0 : Int} (h : ConcN.Mode k D (tagOf (match mb with | .blk => true | _ => false) st) s0 sm0) : (mb' = mb ∨ (mb = .blk ∧ mb' = .run)) → ConcN.Mode k D (tagOf (match mb' with | .blk => true | _ => false) st) s0 sm0 := by
  intro e
  rcases e with rfl | ⟨rfl, rfl⟩
  · cases mb' <;> exact h
  · cases st <;> first | exact h | exact h.retag (.inr ⟨rfl, rfl⟩)
theorem snd2 {f f' : Cf} {x x' : XW Gh} {c : Co} {j0 i : Nat} {s : Snd} {u : Trace} {pk pk' : Bool} (h : Inv2 P f x c j0) (hs : c.snd[i]? = some s) (hk : f'.k = f.k) (hmb : f'.mb = f.mb ∨ (((∃ i, f.mb = .park i) ∨ f.mb = .blk) ∧ f'.mb = .run)) (hph : ∀ j, j ≠ j0 + 1 + i → f'.ph j = f.ph j)
    (hp : f.ph (j0 + 1 + i) = .A pk) (hp' : f'.ph (j0 + 1 + i) = .A pk') (hF : ∀ j, j ≠ j0 + 1 + i → f'.F j = f.F j) (ho : f'.o.base = f.o.base ∧ f'.o.win = f.o.win ∧ f'.o.wi = f.o.wi ∧ f'.o.Sh = f.o.Sh ∧ f'.o.rl = f.o.rl ∧ f'.o.ac = f.o.ac)
    (hheap : ∀ b, b ≠ s.ch → f'.w.heap[b]? = f.w.heap[b]?) (hbase : ∀ b, c.base b ≠ none → ¬ f.o.Sh b) (ht : f'.t = f.t ++ u) (hq : ∀ g, Deaf (f.t ++ u) g = Deaf f.t g) (hown : ∀ op ∈ u, op.g = j0 + 1 + i)
    (hnor : ∀ op ∈ u, op.act ≠ .mark (.release (stA c.wg))) (htw : ∀ op ∈ u, ∀ a, op.act.touch? = some a → ∀ b, blk a.loc = some b → c.win b = none) (hgs : ∀ j s g d, 1 ≤ j → f.ph j = .B s g d → f'.gs[j]? = f.gs[j]?)
    (hpk : pk' = true → c.shut = false) (hpark : f'.mb = .park i → pk' = false ∧ ∃ q, (f'.F (j0 + 1 + i)).2.s = .snd q ∧ q.closed = false)
    (hcha : ∃ q, (f'.F (j0 + 1 + i)).2.s = .snd q ∧ q.ty = c.ty ∧ q.ech = c.ech ∧ q.wg = c.wg ∧ q.base = c.base ∧ q.ch = s.ch ∧ (q.off = false → q.rem = s.rem) ∧ (q.off = true → c.shut = true) ∧ (q.closed = true → q.rem = [] ∨ q.off = true) ∧ (q.fst = true → c.wn = true ∧ i + 1 = c.snd.length ∧ q.win = c.win ∧ q.closed = false) ∧ (∃ n, f'.w.heap[s.ch]? = some (.chan 0 #[] q.closed n n false)) ∧
      (q.closed = true → ∃ p, f'.t.act? p = some (.close s.ch) ∧ f'.t.heard p ∧ (c.wn = true → i + 1 = c.snd.length → ∀ y a b, touchAt f'.t y = some a → blk a.loc = some b → c.win b ≠ none → Knows f'.t 0 y ∨ Before f'.t y p))) :
    Inv2 P f' x' c j0 := by
  have hL : ∀ j, (f'.ph j).isL ↔ (f.ph j).isL := fun j => by
    by_cases e : j = j0 + 1 + i
    · rw [e, hp, hp']; exact Iff.rfl
    · rw [hph j e]
  have hA : ∀ j, (f'.ph j).isA ↔ (f.ph j).isA := fun j => by
    by_cases e : j = j0 + 1 + i
    · rw [e, hp, hp']; exact Iff.rfl
    · rw [hph j e]
  have hD : f'.D = f.D := by
    funext j
    by_cases e : j + 1 = j0 + 1 + i
    · simp [Cf.D, e, hp, hp', Ph.wd]
    · simp [Cf.D, hph _ e]
  have hB : ∀ {j s g d}, f'.ph j = .B s g d → f.ph j = .B s g d ∧ j ≠ j0 + 1 + i := fun {j s g d} hh => by
    by_cases e : j = j0 + 1 + i
    · rw [e, hp'] at hh; cases hh
    · exact ⟨by rw [← hph j e]; exact hh, e⟩
  obtain ⟨k1, k2, k3, k4⟩ := h.ch i s hs
  obtain ⟨o1, o2, o3, o4, o5, o6⟩ := ho
  have hlen : i < c.snd.length := (List.getElem?_eq_some_iff.1 hs).1
  have hclo : ∀ {ch i' : Nat}, (∃ p, f.t.act? p = some (.close ch) ∧ f.t.heard p ∧ (c.wn = true → i' + 1 = c.snd.length → ∀ y a b, touchAt f.t y = some a → blk a.loc = some b → c.win b ≠ none → Knows f.t 0 y ∨ Before f.t y p)) →
      ∃ p, f'.t.act? p = some (.close ch) ∧ f'.t.heard p ∧ (c.wn = true → i' + 1 = c.snd.length → ∀ y a b, touchAt f'.t y = some a → blk a.loc = some b → c.win b ≠ none → Knows f'.t 0 y ∨ Before f'.t y p) := by
    rintro ch i' ⟨p, e1, e2, e3⟩
    have hlt := lt_of_act? e1
    rw [ht]
    refine ⟨p, by rw [act?_old hlt]; exact e1, (heard_old hlt).2 e2, fun hw hl y a b ha hb hbb => ?_⟩
    rcases touch_cases ha with ⟨_, ha'⟩ | ⟨_, op, hop, _, hoa⟩
    · exact (e3 hw hl y a b ha' hb hbb).imp (·.app u) (·.app u)
    · exact absurd (htw op hop a hoa b hb) hbb
  have hmode : ∃ st sm, WgAt c.ty c.wg f'.w st sm ∧ ConcN.Mode f.k f.D (tagOf (match f'.mb with | .blk => true | _ => false) c.st) st sm := by
    obtain ⟨st, sm, e1, e2⟩ := h.mode
    refine ⟨st, sm, (hheap _ (Ne.symm k3)).trans e1, ?_⟩
    rcases hmb with e | ⟨⟨i', e⟩ | e, e'⟩
    · rw [e]; exact e2
    · rw [e']; rw [e] at e2; exact e2
    · exact mode_mb e2 (.inr ⟨e, e'⟩)
  refine ⟨by rw [hk]; exact h.k, fun j hj hle => by rw [hph j (by omega)]; exact h.old j hj hle, by rw [o1]; exact h.base, by rw [o2]; exact h.win, fun hh => by rw [o3, hk]; exact h.wi hh, h.wn, ⟨by rw [o4]; exact h.ech.1, ?_⟩, by rw [o4]; exact h.wg, by rw [hk, hD]; exact hmode, fun i' hi' => ?_, fun n hn => by rw [hk, hD]; exact h.bnd n hn, h.shut, h.open_,
    fun i' z hz => by rw [o4]; exact h.ch i' z hz, fun j h1 h2 hh => ?_, fun i' z pk'' hz hpz => ?_, fun i' z hz hpz => ?_, fun j s g d hpj hj hi => ?_, fun j s g d hpj hj hi hs => ?_, fun j r hr => ?_, ?_, fun hd j r hr => ?_, h.few, fun i' z hz => by rw [o6]; exact h.ac i' z hz⟩
  · obtain ⟨n, r, e⟩ := h.ech.2
    exact ⟨n, r, by rw [hheap _ (Ne.symm k2)]; exact e⟩
  · by_cases e : i' = i
    · subst e
      obtain ⟨e1, q, e2, e3⟩ := hpark hi'
      subst e1
      exact ⟨q, hp', e2, e3, hlen⟩
    · have hi'' : f.mb = .park i' := by
        rcases hmb with e | ⟨_, e⟩
        · rw [← e]; exact hi'
        · rw [e] at hi'; cases hi'
      obtain ⟨q, e1, e2, e3, e4⟩ := h.park i' hi''
      exact ⟨q, by rw [hph _ (by omega)]; exact e1, by rw [hF _ (by omega)]; exact e2, e3, e4⟩
  · by_cases e : j = j0 + 1 + i
    · rw [e, hp'] at hh; cases hh; exact hpk rfl
    · exact h.pk j h1 (hk ▸ h2) (hph j e ▸ hh)
  · by_cases e : i' = i
    · subst e
      rw [hs] at hz; cases hz
      exact hcha
    · have hzs : z.ch ≠ s.ch := fun e' => e (k4 i' z hz e')
      obtain ⟨q, q1, q2, q3, q4, q5, q6, q7, q8, q9, q10, q11, q12⟩ := h.cha i' z pk'' hz (by rw [← hph (j0 + 1 + i') (by omega)]; exact hpz)
      exact ⟨q, by rw [hF _ (by omega)]; exact q1, q2, q3, q4, q5, q6, q7, q8, q9, q10, by rw [hheap _ hzs]; exact q11, fun hh => hclo (q12 hh)⟩
  · by_cases e : i' = i
    · subst e; exact absurd (by rw [hp']; trivial) hpz
    · have hzs : z.ch ≠ s.ch := fun e' => e (k4 i' z hz e')
      obtain ⟨b1, b2, b3⟩ := h.chb i' z hz (by rw [← hph (j0 + 1 + i') (by omega)]; exact hpz)
      exact ⟨b1, by rw [hheap _ hzs]; exact b2, hclo b3⟩
  · obtain ⟨hpj', hne⟩ := hB hpj
    obtain ⟨b1, r, b2, b3⟩ := h.b j s g d hpj' hj (hk ▸ hi)
    exact ⟨by rw [ht, hq]; exact b1, r, by rw [hgs j s g d (by omega) hpj']; exact b2, b3.rely (w' := f'.w) (fun b hb => hheap b fun e => hbase b hb (e ▸ k1)) (fun _ => let ⟨st, sm, e1, _⟩ := hmode; ⟨st, sm, e1⟩) fun h7 => sm_same (i := j - 1) (by have := hk ▸ hi; omega) (by subst h7; simp only [Cf.D, Nat.sub_add_cancel (show 1 ≤ j by omega), hpj', Ph.wd]) h.mode hmode⟩
  · rw [o5]; exact h.b7 j s g d (hB hpj).1 hj (hk ▸ hi) hs
  · rw [o5] at hr
    obtain ⟨r1, r2, r3, r4⟩ := h.rel j r hr
    refine ⟨r1, by rw [hk]; exact r2, fun hh => r3 ((hL _).1 hh), by rw [ht]; exact r4.appOther hown fun e => r3 (by rw [← e, hp]; trivial)⟩
  · exact h.nor.app ht (fun i r hr => by rw [o5] at hr; exact hr) (fun i r hr => h.rel_lt hr) hnor
  · rw [o5] at hr; rw [ht]; exact (h.acq hd j r hr).app u
end
end Go.X
