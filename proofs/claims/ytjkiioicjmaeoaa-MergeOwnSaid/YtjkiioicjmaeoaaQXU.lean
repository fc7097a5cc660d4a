/- A company: a sender hands a value to the starter; the starter finds a channel closed. No program in sight. -/
import Derived.Test.YtjkiioicjmaeoaaQXS
set_option linter.unusedVariables false
set_option linter.unusedSimpArgs false
namespace Go.X
open Go Go.Sx Go.Conc Go.ConcN
open Go.ConcR (KK wgBlock WgAt stA smA rd wr mk Payload Bk)
theorem knows_met {t : Trace} {h j : Nat} {fh : FuncId} {ph : String} {fj : FuncId} {pj : String} {c k cap : Nat} (hh : Deaf t h = 0) (hj : Deaf t j = 0) {y : Nat} (hk : Knows t h y) : Knows (t ++ met h j fh ph fj pj c k cap) j y := by
  have e0 : (t ++ met h j fh ph fj pj c k cap)[t.size]? = some { g := h, fn := fh, pos := ph, act := .send c k } := by simp [met]
  have e3 : (t ++ met h j fh ph fj pj c k cap)[t.size + 3]? = some { g := j, fn := fj, pos := pj, act := .recvDone c k } := by simp [met]
  have edge : HappensBefore (t ++ met h j fh ph fj pj c k cap) t.size (t.size + 3) :=
    Relation.TransGen.single (.inr ⟨.handOver (act?_of e0) (act?_of e3), ⟨h, g?_of e0, by rw [deaf_old (Nat.le_refl _)]; exact hh⟩, ⟨j, g?_of e3, by rw [deaf_quiet (met_quiet _ _ _ _ _ _ _ _ _ j) 3 (by simp [met])]; exact hj⟩⟩)
  exact ⟨t.size + 3, _, e3, rfl, .inr ((hk.hb_new (Nat.le_refl _) e0 rfl).trans edge)⟩
theorem knows_closed {t : Trace} {j p c : Nat} {fj : FuncId} {pj : String} (hp : t.act? p = some (.close c)) (hh : t.heard p) (hj : Deaf t j = 0) {y : Nat} (hy : Before t y p) : Knows (t ++ #[{ g := j, fn := fj, pos := pj, act := .recvClosed c }]) j y := by
  have hlt := lt_of_act? hp
  have e0 : (t ++ #[({ g := j, fn := fj, pos := pj, act := .recvClosed c } : MemOp)])[t.size]? = some { g := j, fn := fj, pos := pj, act := .recvClosed c } := by simp
  have edge : HappensBefore (t ++ #[{ g := j, fn := fj, pos := pj, act := .recvClosed c }]) p t.size :=
    Relation.TransGen.single (.inr ⟨.closed (by rw [act?_old hlt]; exact hp) (act?_of e0), (heard_old hlt).2 hh, ⟨j, g?_of e0, by rw [deaf_old (Nat.le_refl _)]; exact hj⟩⟩)
  exact ⟨t.size, _, e0, rfl, .inr ((hy.app _).hb edge)⟩
theorem setChan_size (w : World) (c a : Nat) (b : Array Value) (d : Bool) (s r : Nat) (tm : Bool) : (w.setChan c a b d s r tm).heap.size = w.heap.size := by simp [World.setChan]
section
variable {P : Program} {Post : Value → World → Prop} {W0 : World}
abbrev meetNext (f : Cf) (gs' : Array Goroutine) (j : Nat) (y : Goroutine × XW Gh) (ch n : Nat) (u : Trace) : Cf :=
  { f with gs := gs', w := f.w.setChan ch 0 #[] false (n + 1) (n + 1) false, t := f.t ++ u, mb := .run, F := ConcN.upd f.F j y, ph := ConcN.upd f.ph j (.A false), o := { f.o with M := ConcN.upd f.o.M 0 (join (f.o.M 0) f.o.win), win := Heap.empty } }
theorem meet {f : Cf} {a g' y' : Goroutine} {m mj : Heap} {c : Co} {j0 i n : Nat} {s : Snd} {pk : Bool} {q : Cs} {v : Value} {vs : List Value} {gs' : Array Goroutine} {fh : FuncId} {ph : String} {fj : FuncId} {pj : String}
    (h1 : Inv1 P Post W0 f a ⟨m, .co c⟩) (h2 : Inv2 P f ⟨m, .co c⟩ c j0) (hmb : f.mb ≠ .blk) (hst : c.st = .run) (hsh : c.shut = false) (hs : c.snd[i]? = some s) (hwn : c.wn = true → i + 1 = c.snd.length) (hp : f.ph (j0 + 1 + i) = .A pk)
    (hF : (f.F (j0 + 1 + i)).2 = ⟨mj, .snd q⟩) (hrem : q.rem = v :: vs) (hoff : q.off = false) (hcl : q.closed = false) (hn : f.w.heap[s.ch]? = some (.chan 0 #[] false n n false))
    (hy : MIp P Post W0 y' ⟨mj, .snd { q with rem := vs, fst := false }⟩) (hg : MIp P Post W0 g' ⟨join m c.win, .co { c with win := Heap.empty, wn := false, snd := c.snd.set i ⟨s.ch, vs⟩ }⟩)
    (hsz : gs'.size = f.gs.size) (h0 : gs'[0]? = some g') (hj : gs'[j0 + 1 + i]? = some y') (hgs : ∀ k, k ≠ 0 → k ≠ j0 + 1 + i → gs'[k]? = f.gs[k]?) :
    Inv P Post W0 (meetNext f gs' (j0 + 1 + i) (y', ⟨mj, .snd { q with rem := vs, fst := false }⟩) s.ch n (met (j0 + 1 + i) 0 fh ph fj pj s.ch n 0)) g' ⟨join m c.win, .co { c with win := Heap.empty, wn := false, snd := c.snd.set i ⟨s.ch, vs⟩ }⟩ := by
  have hlen : i < c.snd.length := (List.getElem?_eq_some_iff.1 hs).1
  have hik : j0 + 1 + i ≤ f.k := by rw [h2.k]; omega
  obtain ⟨q', q1, q2, q3, q4, q5, q6, q7, q8, q9, q10, q11, q12⟩ := h2.cha i s pk hs hp
  rw [hF] at q1
  cases q1
  obtain ⟨k1, k2, k3, k4⟩ := h2.ch i s hs
  have hm0 : f.o.M 0 = m := h1.oM0
  have hd0 : Deaf f.t 0 = 0 := by rw [h1.d0]; simp [deafOf, hst]
  have hdj : Deaf f.t (j0 + 1 + i) = 0 := h1.da _ (by omega) hik (by rw [hp]; trivial)
  have hne : ∀ b, b ≠ s.ch → (f.w.setChan s.ch 0 #[] false (n + 1) (n + 1) false).heap[b]? = f.w.heap[b]? := fun b hb => heap_setChan_ne _ _ _ _ _ _ _ (Ne.symm hb)
  have hself : (f.w.setChan s.ch 0 #[] false (n + 1) (n + 1) false).heap[s.ch]? = some (.chan 0 #[] false (n + 1) (n + 1) false) := heap_setChan_self _ hn _ _ _ _ _ _
  have hchl : s.ch < f.w.heap.size := h1.apart.sh _ k1
  have hmute := met_mute (j0 + 1 + i) 0 fh ph fj pj s.ch n 0
  have hquiet : ∀ op ∈ met (j0 + 1 + i) 0 fh ph fj pj s.ch n 0, ∀ g d, deafStep g d op = d := fun op hop g d => met_quiet (j0 + 1 + i) 0 fh ph fj pj s.ch n 0 g op hop d
  have htok := h1.tok.still (u := met (j0 + 1 + i) 0 fh ph fj pj s.ch n 0) fun op hop => ⟨by
      rw [h1.ok]
      simp only [met, List.mem_toArray, List.mem_cons, List.not_mem_nil, or_false] at hop
      rcases hop with rfl | rfl | rfl | rfl <;> first | exact hik | exact Nat.zero_le _, hmute op hop⟩
  obtain ⟨t1, t2⟩ := take_own (t := f.t ++ met (j0 + 1 + i) 0 fh ph fj pj s.ch n 0) h1.apart htok fun y ad b ha hb hw => by
    rcases touch_cases ha with ⟨_, ha'⟩ | ⟨_, op, hop, _, hoa⟩
    · rcases h1.tok.winAll y ad b ha' hb hw with h3 | h3
      · exact h3.app _
      · have hwn' : c.wn = true := by
          cases hh : c.wn with
          | true => rfl
          | false => rw [h2.win, h2.wn hh] at hw; exact absurd rfl hw
        have : f.o.wi = j0 + 1 + i := by rw [(h2.wi hwn').1, h2.k, ← hwn hwn']; omega
        rw [this] at h3
        exact knows_met hdj hd0 h3
    · rw [hmute op hop] at hoa; cases hoa
  have hwin : ∀ b, ¬ f.o.Sh b → (f.w.setChan s.ch 0 #[] false (n + 1) (n + 1) false).heap[b]? = f.w.heap[b]? := fun b hb => hne b fun e => hb (e ▸ k1)
  have keep : ∀ (H : Heap), H.le (rp f.w) → (∀ b, H b ≠ none → ¬ f.o.Sh b) → H.le (rp (f.w.setChan s.ch 0 #[] false (n + 1) (n + 1) false)) := fun H hH hd b o hb => by
    show (f.w.setChan s.ch 0 #[] false (n + 1) (n + 1) false).heap[b]? = some o
    rw [hwin b (hd b (by rw [hb]; simp))]; exact hH b o hb
  have hj0' : (0 : Nat) ≠ j0 + 1 + i := by omega
  refine ⟨comm1 (j := j0 + 1 + i) (u := met (j0 + 1 + i) 0 fh ph fj pj s.ch n 0) h1 (by omega) rfl hsz ⟨h1.env.os, h1.env.tape, h1.env.out⟩ ⟨g', h0, .run (.refl (mi_running hg))⟩ (fun k hk hne => hgs k (by omega) hne) (fun k hk => upd_ne _ _ hk) (fun k hk => upd_ne _ _ hk)
    (.inr ⟨pk, false, hp, ConcN.upd_same _ _ _, ⟨y', hj, .inl ⟨rfl, ?_⟩⟩, ?_, ?_⟩) rfl hquiet (by simp [deafOf]) rfl (fun k hk => upd_ne _ _ (by omega)) ?_ rfl rfl (by rw [setChan_size]; exact t1) (fun k => ?_) ?_ (fun b o hb => by cases hb) (by rw [setChan_size]; exact t2), j0, ?_⟩
  · show Like P (ConcN.upd f.F _ _ _).1 y'
    rw [ConcN.upd_same]; exact .refl (mi_running hy)
  · show MIp P Post W0 (ConcN.upd f.F _ _ _).1 (ConcN.upd f.F _ _ _).2
    rw [ConcN.upd_same]; exact hy
  · show (ConcN.upd f.F _ _ _).2.m = _
    rw [ConcN.upd_same, hF]
  · show ConcN.upd f.o.M 0 (join (f.o.M 0) f.o.win) 0 = join m c.win
    rw [ConcN.upd_same, hm0, h2.win]
  · refine keep _ ?_ fun b hb => (t1.mem k b hb).2.2.1
    intro b o hb
    simp only [ConcN.upd] at hb
    split at hb
    · simp only [join] at hb
      split at hb
      · rename_i o' he; cases hb; exact h1.mem 0 b o he
      · exact h1.mwin b o hb
    · exact h1.mem k b o hb
  · exact keep _ h1.mbase fun b hb => (h1.apart.base b hb).2.1
  · refine take2 (s' := ⟨s.ch, vs⟩) (u := met (j0 + 1 + i) 0 fh ph fj pj s.ch n 0) h2 hst hs rfl hwn hmb rfl rfl (fun k => ?_) (fun k hk => upd_ne _ _ hk) ⟨rfl, rfl, rfl, rfl, rfl⟩ hne (fun b hb => (h1.apart.base b (by rw [h2.base]; exact hb)).2.1) rfl
      (fun op hop => ⟨hmute op hop, hquiet op hop, ?_⟩) (fun k z gg d hk hpk => hgs k (by omega) fun e => ?_) (fun pk' hpk' => ?_) (fun hh => absurd (by rw [hp]; trivial) hh)
    · by_cases e : k = j0 + 1 + i
      · subst e; exact .inr ⟨rfl, pk, hp, ConcN.upd_same _ _ _⟩
      · exact .inl (upd_ne _ _ e)
    · simp only [met, List.mem_toArray, List.mem_cons, List.not_mem_nil, or_false] at hop
      rcases hop with rfl | rfl | rfl | rfl <;> simp
    · rw [e, hp] at hpk; cases hpk
    · refine ⟨{ q with rem := vs, fst := false }, ?_, q2, q3, q4, q5, q6, fun _ => rfl, fun hh => ?_, fun hh => ?_, rfl, ⟨n + 1, ?_⟩, fun hh => ?_⟩
      · show (ConcN.upd f.F _ _ _).2.s = _
        rw [ConcN.upd_same]
      · exact q8 hh
      · rw [show ({ q with rem := vs, fst := false } : Cs).closed = q.closed from rfl, hcl] at hh; cases hh
      · rw [show ({ q with rem := vs, fst := false } : Cs).closed = q.closed from rfl, hcl]; exact hself
      · rw [show ({ q with rem := vs, fst := false } : Cs).closed = q.closed from rfl, hcl] at hh; cases hh
abbrev shutNext (f : Cf) (gs' : Array Goroutine) (u : Trace) : Cf :=
  { f with gs := gs', t := f.t ++ u, mb := .run, o := { f.o with M := ConcN.upd f.o.M 0 (join (f.o.M 0) f.o.win), win := Heap.empty } }
theorem found {f : Cf} {a g' : Goroutine} {m : Heap} {c : Co} {j0 i : Nat} {s : Snd} {gs' : Array Goroutine} {fj : FuncId} {pj : String}
    (h1 : Inv1 P Post W0 f a ⟨m, .co c⟩) (h2 : Inv2 P f ⟨m, .co c⟩ c j0) (hmb : f.mb ≠ .blk) (hst : c.st = .run) (hs : c.snd[i]? = some s) (hwn : c.wn = true → i + 1 = c.snd.length)
    (hclo : ∃ p, f.t.act? p = some (.close s.ch) ∧ f.t.heard p ∧ (c.wn = true → i + 1 = c.snd.length → ∀ y a b, touchAt f.t y = some a → blk a.loc = some b → c.win b ≠ none → Knows f.t 0 y ∨ Before f.t y p))
    (hg : MIp P Post W0 g' ⟨join m c.win, .co { c with win := Heap.empty, wn := false }⟩) (hcl : ∀ pk q, f.ph (j0 + 1 + i) = .A pk → (f.F (j0 + 1 + i)).2.s = .snd q → q.closed = true)
    (hsz : gs'.size = f.gs.size) (h0 : gs'[0]? = some g') (hgs : ∀ k, k ≠ 0 → gs'[k]? = f.gs[k]?) :
    Inv P Post W0 (shutNext f gs' #[{ g := 0, fn := fj, pos := pj, act := .recvClosed s.ch }]) g' ⟨join m c.win, .co { c with win := Heap.empty, wn := false }⟩ := by
  have hlen : i < c.snd.length := (List.getElem?_eq_some_iff.1 hs).1
  obtain ⟨k1, k2, k3, k4⟩ := h2.ch i s hs
  obtain ⟨p, p1, p2, p3⟩ := hclo
  have hm0 : f.o.M 0 = m := h1.oM0
  have hd0 : Deaf f.t 0 = 0 := by rw [h1.d0]; simp [deafOf, hst]
  have hmute : ∀ op ∈ #[({ g := 0, fn := fj, pos := pj, act := .recvClosed s.ch } : MemOp)], op.act.touch? = none := fun op hop => by
    simp only [List.mem_toArray, List.mem_singleton] at hop; subst hop; rfl
  have hquiet : ∀ op ∈ #[({ g := 0, fn := fj, pos := pj, act := .recvClosed s.ch } : MemOp)], ∀ g d, deafStep g d op = d := fun op hop g d => by
    simp only [List.mem_toArray, List.mem_singleton] at hop; subst hop; rfl
  have htok := h1.tok.still (u := #[({ g := 0, fn := fj, pos := pj, act := .recvClosed s.ch } : MemOp)]) fun op hop => ⟨by
      simp only [List.mem_toArray, List.mem_singleton] at hop; subst hop; exact Nat.zero_le _, hmute op hop⟩
  obtain ⟨t1, t2⟩ := take_own h1.apart htok fun y ad b ha hb hw => by
    rcases touch_cases ha with ⟨_, ha'⟩ | ⟨_, op, hop, _, hoa⟩
    · have hwn' : c.wn = true := by
        cases hh : c.wn with
        | true => rfl
        | false => rw [h2.win, h2.wn hh] at hw; exact absurd rfl hw
      rcases p3 hwn' (hwn hwn') y ad b ha' hb (by rw [← h2.win]; exact hw) with h3 | h3
      · exact h3.app _
      · exact knows_closed p1 p2 hd0 h3
    · rw [hmute op hop] at hoa; cases hoa
  have hid : c.snd.set i s = c.snd := by
    apply List.ext_getElem?
    intro k
    rw [List.getElem?_set]
    split
    · rename_i e; subst e; first | exact hs.symm | (rw [if_pos hlen]; exact hs.symm)
    · rfl
  refine ⟨comm1 (j := j0 + 1 + i) (u := #[({ g := 0, fn := fj, pos := pj, act := .recvClosed s.ch } : MemOp)]) h1 (by omega) rfl hsz h1.env ⟨g', h0, .run (.refl (mi_running hg))⟩ (fun k hk hne => hgs k (by omega)) (fun k hk => rfl) (fun k hk => rfl)
    (.inl ⟨rfl, hgs _ (by omega), rfl⟩) rfl hquiet (by simp [deafOf]) rfl (fun k hk => upd_ne _ _ (by omega)) ?_ rfl rfl t1 (fun k => ?_) h1.mbase (fun b o hb => by cases hb) t2, j0, ?_⟩
  · show ConcN.upd f.o.M 0 (join (f.o.M 0) f.o.win) 0 = join m c.win
    rw [ConcN.upd_same, hm0, h2.win]
  · intro b o hb
    simp only [ConcN.upd] at hb
    split at hb
    · simp only [join] at hb
      split at hb
      · rename_i o' he; cases hb; exact h1.mem 0 b o he
      · exact h1.mwin b o hb
    · exact h1.mem k b o hb
  · have := take2 (f' := shutNext f gs' #[{ g := 0, fn := fj, pos := pj, act := .recvClosed s.ch }]) (x' := ⟨join m c.win, .co { c with win := Heap.empty, wn := false }⟩) (s' := s) h2 hst hs rfl hwn hmb rfl rfl (fun k => .inl rfl) (fun k hk => rfl) ⟨rfl, rfl, rfl, rfl, rfl⟩ (fun _ _ => rfl) (fun b hb => (h1.apart.base b (by rw [h2.base]; exact hb)).2.1) rfl
      (fun op hop => ⟨hmute op hop, hquiet op hop, ?_⟩) (fun k z gg d hk hpk => hgs k (by omega)) (fun pk' hpk' => ?_) (fun hh => ?_)
    · rw [hid] at this; exact this
    · simp only [List.mem_toArray, List.mem_singleton] at hop; subst hop; simp
    · obtain ⟨q, q1, q2, q3, q4, q5, q6, q7, q8, q9, q10, q11, q12⟩ := h2.cha i s pk' hs hpk'
      refine ⟨q, q1, q2, q3, q4, q5, q6, q7, q8, q9, ?_, q11, fun hh => let ⟨p, e1, e2, _⟩ := q12 hh; ⟨p, e1, e2⟩⟩
      have := hcl pk' q hpk' q1
      cases hh : q.fst with
      | false => rfl
      | true => have := (q10 hh).2.2.2; simp_all
    · obtain ⟨b1, b2, _⟩ := h2.chb i s hs hh
      exact ⟨b1, b2⟩
end
end Go.X
