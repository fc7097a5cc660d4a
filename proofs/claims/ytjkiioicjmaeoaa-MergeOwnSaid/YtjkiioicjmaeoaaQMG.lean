/- A sender's life. -/
import Derived.Test.YtjkiioicjmaeoaaQMA
set_option linter.unusedVariables false
set_option linter.unusedSimpArgs false
namespace Go.X
open Go Go.Sx
section
variable {P : Program} {n : NF} {W0 : GW} {F : Slots} {H : Heap} {L : List HProp} {Q : Exit → Act → GW → Prop} {k : List Fr}
theorem cx_loopG {c : Code} {σ : Type} (I : σ → Prop) (mW : σ → GW) (mF : σ → Slots) (mH : σ → Heap) (mL : σ → List HProp) (μ : σ → Nat) (s0 : σ) (h0 : I s0) (hs0 : Sub L (mL s0)) (hf0 : fsub (mF s0) F) (hh0 : mH s0 = H) (hw0 : mW s0 = W0)
    (round : ∀ s, I s → ∀ K : Act → GW → Prop, (∀ s', I s' → μ s' < μ s → Sat n (mW s') (mF s') (mH s') (mL s') K) → Sat n (mW s) (mF s) (mH s) (mL s) (c.wpV P (thenX K Q))) :
    Sat n W0 F H L ((Code.loop c).wpV P Q) := by
  subst hh0 hw0
  refine Sat.sub (F' := mF s0) (L' := mL s0) ?_ hs0 hf0
  intro a w hF hS Wr h1 b k cs hb hc
  have key : ∀ m s a (w : GW), I s → μ s = m → FrOk n a (mF s) → StG (mW s) (mH s) w (mL s) → Sm Wr w → MI P kd Wr.toWorld (SB P Wr) (Go.Conc.G (b.at a (.code c :: .inLoop c :: k)) cs) (xw w) := by
    intro m
    induction m using Nat.strongRecOn with
    | _ m ih =>
      intro s a w hI hm hF hS h1
      refine round s hI (fun a' w' => ∃ s', I s' ∧ μ s' < μ s ∧ FrOk n a' (mF s') ∧ StG (mW s') (mH s') w' (mL s')) (fun s' hI' hs' a' w' hF' hS' => ⟨s', hI', hs', hF', hS'⟩) a w hF hS Wr h1 b (.inLoop c :: k) cs hb fun e a' x' hq => ?_
      cases e with
      | normal =>
        obtain ⟨w', r, s', hI', hlt, hF', hS'⟩ := hq
        rw [r.eq]
        exact .ctl rfl (fun _ _ => Go.Conc.stepG_inLoop) (ih (μ s') (hm ▸ hlt) s' a' w' hI' rfl hF' hS' r.sm)
      | exit id => exact (hc _ _ _ hq).push rfl (by simp)
      | goto l => exact (hc _ _ _ hq).push (i := .inLoop c) rfl (by simp)
      | ret => exact (hc _ _ _ hq).push (i := .inLoop c) rfl (by simp)
      | panic ch => exact hc _ _ _ hq
      | outgrown => exact hc _ _ _ hq
  exact .ctl rfl (fun _ _ => Go.Conc.stepG_loop) (key _ s0 a w h0 rfl hF hS h1)
theorem ex_cutG {x y : Code} {σ : Type} (I : σ → Prop) (mW : σ → GW) (mF : σ → Slots) (mH : σ → Heap) (mL : σ → List HProp)
    (h : ∀ K : Act → GW → Prop, (∀ s, I s → Sat n (mW s) (mF s) (mH s) (mL s) K) → Ex P n W0 Q F H L x (.cut K :: k)) (h2 : ∀ s, I s → Ex P n (mW s) Q (mF s) (mH s) (mL s) y k) : Ex P n W0 Q F H L (.seq x y) k :=
  ⟨fun a w hF hS => wpV_seq ((h (y.wpV P (Kx P Q k)) fun s hs => (h2 s hs).run).run a w hF hS)⟩
theorem ex_loopG {c : Code} {σ : Type} (I : σ → Prop) (mW : σ → GW) (mF : σ → Slots) (mH : σ → Heap) (mL : σ → List HProp) (μ : σ → Nat) (s0 : σ) (h0 : I s0)
    (round : ∀ s, I s → ∀ K : Act → GW → Prop, (∀ s', I s' → μ s' < μ s → Sat n (mW s') (mF s') (mH s') (mL s') K) → Ex P n (mW s) Q (mF s) (mH s) (mL s) c (.cut K :: k))
    (hs0 : Sub L (mL s0) := by (try dsimp only); (repeat (first | exact Go.Sx.Sub.refl _ | exact Go.Sx.Sub.nil _ | (apply Go.Sx.sub_pick; (repeat (first | exact Go.Sx.Has.here | apply Go.Sx.Has.there)); skip) | apply Go.Sx.Sub.drop)))
    (hf0 : fsub (mF s0) F := by (try dsimp only); repeat (first | exact Go.Sx.fsub_nil _ | refine Go.Sx.fsub_cons rfl ?_)) (hh0 : mH s0 = H := by rfl) (hw0 : mW s0 = W0 := by rfl) :
    Ex P n W0 Q F H L (.loop c) k := ⟨cx_loopG I mW mF mH mL μ s0 h0 hs0 hf0 hh0 hw0 fun s hs K hK => (round s hs K hK).run⟩
theorem out_nextG {σ : Type} {I : σ → Prop} {mW : σ → GW} {mF : σ → Slots} {mH : σ → Heap} {mL : σ → List HProp} {μ : σ → Nat} {s : σ} {K : Act → GW → Prop} (hL : ∀ s', I s' → μ s' < μ s → Sat n (mW s') (mF s') (mH s') (mL s') K) (s' : σ) (hI : I s') (hμ : μ s' < μ s := by (try dsimp only); omega)
    (hs : Sub L (mL s') := by (try dsimp only); (repeat (first | exact Go.Sx.Sub.refl _ | exact Go.Sx.Sub.nil _ | (apply Go.Sx.sub_pick; (repeat (first | exact Go.Sx.Has.here | apply Go.Sx.Has.there)); skip) | apply Go.Sx.Sub.drop)))
    (hf : fsub (mF s') F := by (try dsimp only); repeat (first | exact Go.Sx.fsub_nil _ | refine Go.Sx.fsub_cons rfl ?_)) (hh : mH s' = H := by rfl) (hw : mW s' = W0 := by rfl) : Out P n W0 Q F H L .normal (.cut K :: k) := by
  subst hh hw; exact ⟨(hL s' hI hμ).sub hs hf⟩
theorem out_toG {σ : Type} {I : σ → Prop} {mW : σ → GW} {mF : σ → Slots} {mH : σ → Heap} {mL : σ → List HProp} {K : Act → GW → Prop} (hL : ∀ s', I s' → Sat n (mW s') (mF s') (mH s') (mL s') K) (s' : σ) (hI : I s')
    (hs : Sub L (mL s') := by (try dsimp only); (repeat (first | exact Go.Sx.Sub.refl _ | exact Go.Sx.Sub.nil _ | (apply Go.Sx.sub_pick; (repeat (first | exact Go.Sx.Has.here | apply Go.Sx.Has.there)); skip) | apply Go.Sx.Sub.drop)))
    (hf : fsub (mF s') F := by (try dsimp only); repeat (first | exact Go.Sx.fsub_nil _ | refine Go.Sx.fsub_cons rfl ?_)) (hh : mH s' = H := by rfl) (hw : mW s' = W0 := by rfl) : Out P n W0 Q F H L .normal (.cut K :: k) := by
  subst hh hw; exact ⟨(hL s' hI).sub hs hf⟩
end
end Go.X
namespace Go.Proofs.Ytjkiioicjmaeoaa
open Go Go.Sx Go.X Go.Proofs
open Go.ConcR (KK wgBlock WgAt stA smA rd wr mk)
theorem uLoad_w0 {W0 : GW} {H : Heap} {c : Co} {m : Nat} (hs : W0.s = .co c) (hst : c.st = .w0 m) :
    CtG Try.prog 46 #[.pointer (some ⟨c.wg, 0, none⟩)] W0 H [] (fun r W1 H' B => H' = H ∧ B = [] ∧ ((r = .int .u64 0 ∧ W1 = setS W0 (.co { c with st := .fin })) ∨ ∃ v : Nat, v ≤ m ∧ v ≠ 0 ∧ r = .int .u64 (v * KK) ∧ W1 = setS W0 (.co { c with st := .w1 v }))) := by
  refine CtG.go (vs := [_]) fun R => ?_
  refine walk ?_
  refine ops_g (opG_load hs hst rfl ?_ fun v h1 h2 => ?_)
  · refine walk ?_
    refine finG [] ?_
    exact ⟨rfl, rfl, .inl ⟨rfl, rfl⟩⟩
  · refine walk ?_
    refine finG [] ?_
    exact ⟨rfl, rfl, .inr ⟨v, h1, h2, rfl, rfl⟩⟩
theorem uLoad_up {W0 : GW} {H : Heap} {c : Co} (hs : W0.s = .co c) (hst : c.st = .up) :
    CtG Try.prog 46 #[.pointer (some ⟨c.wg, 0, none⟩)] W0 H [] (fun r W1 H' B => H' = H ∧ B = [] ∧ r = .int .u64 0 ∧ W1 = setS W0 (.co { c with st := .fin })) := by
  refine CtG.go (vs := [_]) fun R => ?_
  refine walk ?_
  refine ops_g (opG_load0 hs hst rfl ?_)
  refine walk ?_
  refine finG [] ?_
  exact ⟨rfl, rfl, rfl, rfl⟩
theorem uAdd_off {W0 : GW} {H : Heap} {c : Co} (hs : W0.s = .co c) (hst : c.st = .off) (hlen : c.snd.length < 2147483648) :
    CtG Try.prog 44 #[.pointer (some ⟨c.wg, 0, none⟩), .int .u64 4294967296] W0 H [] (fun r W1 H' B => H' = H ∧ B = [] ∧ ∃ v : Nat, v ≤ c.snd.length ∧ r = .int .u64 ((v + 1 : Nat) * KK) ∧ W1 = setS W0 (.co { c with st := .adm })) := by
  refine CtG.go (vs := [_, _]) fun R => ?_
  refine walk ?_
  refine ops_g (opG_add hs hst hlen rfl rfl fun v h1 => ?_)
  refine walk ?_
  refine finG [] ?_
  exact ⟨rfl, rfl, v, h1, rfl, rfl⟩
theorem uCas_w1 {W0 : GW} {H : Heap} {c : Co} {u : Nat} {e1 e2 : Int} (hs : W0.s = .co c) (hst : c.st = .w1 u) (q1 : e1 = u * KK) (q2 : e2 = u * KK + 1) :
    CtG Try.prog 52 #[.pointer (some ⟨c.wg, 0, none⟩), .int .u64 e1, .int .u64 e2] W0 H [] (fun r W1 H' B => H' = H ∧ B = [] ∧ ((r = .bool true ∧ W1 = setS W0 (.co { c with st := .reg })) ∨ ∃ v : Nat, v < u ∧ r = .bool false ∧ W1 = setS W0 (.co { c with st := .w0 v }))) := by
  refine CtG.go (vs := [_, _, _]) fun R => ?_
  refine walk ?_
  refine ops_g (opG_cas hs hst rfl rfl rfl q1 q2 ?_ fun v h1 => ?_)
  · refine walk ?_
    refine finG [] ?_
    exact ⟨rfl, rfl, .inl ⟨rfl, rfl⟩⟩
  · refine walk ?_
    refine finG [] ?_
    exact ⟨rfl, rfl, .inr ⟨v, h1, rfl, rfl⟩⟩
end Go.Proofs.Ytjkiioicjmaeoaa
namespace Go.Proofs.Ytjkiioicjmaeoaa
open Go Go.Sx Go.X Go.Proofs Go.Conc
open Go.ConcR (KK wgBlock WgAt stA smA rd wr mk)
theorem add_spec {W0 : GW} {H : Heap} {c : Co} (hs : W0.s = .co c) (hst : c.st = .run) (hsh : c.shut = false) (hwn : c.wn = false) (hlen : c.snd.length + 2 < 2147483648) :
    CtG Try.prog 24 #[.pointer (some ⟨c.wg, 0, none⟩), .int .i64 1] W0 H [] (fun r W1 H' B => H' = H ∧ B = [] ∧ r = .tuple #[] ∧ W1 = setS W0 (.co { c with st := .pend })) := by
  refine CtG.goMark (fe := 39) (vs := [_, _]) rfl fun R => ?_
  refine walk ?_
  refine ops_g (opG_mark hs (.off hst hsh hwn) ?_)
  refine walk ?_
  refine ops_defer (vs := []) rfl ?_
  refine walk ?_
  refine ops_g (op_const ?_)
  refine walk ?_
  rw [show IntKind.u64.wrap (IntKind.u64.wrap 1 * 4294967296) = 4294967296 by decide]
  refine ops_g (opG_call (vs := [_, _]) (A := []) rfl (uAdd_off (c := { c with st := .off }) rfl rfl (by simp only; omega)) .nil fun r W1 H' B hh => ?_)
  obtain ⟨eH, eB, v, hv, rfl, rfl⟩ := hh
  subst eH eB
  have hv' : v + 1 < 2147483648 := by simp only at hv; omega
  have f1 := st_V hv'
  have f2 := st_bub hv'
  have f3 := st_wait hv'
  generalize hS : ((v + 1 : Nat) : Int) * KK = S at f1 f2 f3 ⊢
  have f4 : IntKind.u32.wrap (bits .and .u64 S 2147483647) = 0 := by rw [f3]; decide
  have f5 : IntKind.i32.wrap 1 = 1 := by decide
  refine walk ?_
  refine ex_if rfl (fun h => ?_) (fun h => ?_)
  · refine walk ?_
    refine ops_up (c := { c with st := .adm }) rfl rfl (by decide) ?_
    refine ops_g (opG_markAt (ad := smA c.wg) (c := { c with st := .adm }) rfl rfl (.rd rfl) ?_)
    refine walk ?_
    refine outD (.inr rfl) rfl fun w hw => ⟨setS W0 (.co { c with st := .adm }), { c with st := .adm }, .pend, _, [], rfl, .on rfl, ⟨rfl, rfl, rfl, rfl⟩, hw⟩
  · refine walk ?_
    refine outD (.inr rfl) rfl fun w hw => ⟨setS W0 (.co { c with st := .adm }), { c with st := .adm }, .pend, _, [], rfl, .on rfl, ⟨rfl, rfl, rfl, rfl⟩, hw⟩
theorem wait_spec {W0 : GW} {H : Heap} {c : Co} (hs : W0.s = .co c) (hst : c.st = .run) (hsh : c.shut = true) (hwn : c.wn = false) (hlen : c.snd.length + 2 < 2147483648) :
    CtG Try.prog 30 #[.pointer (some ⟨c.wg, 0, none⟩)] W0 H [] (fun r W1 H' B => H' = H ∧ B = [] ∧ r = .tuple #[] ∧ W1 = setS W0 (.co { c with st := .done })) := by
  refine CtG.go (vs := [_]) fun R => ?_
  refine walk ?_
  refine ops_g (opG_mark hs (.wait hst hsh hwn) ?_)
  refine walk ?_
  refine ex_loopG (fun s : Nat => s ≤ c.snd.length) (fun s => setS W0 (.co { c with st := .w0 s })) (fun _ => [(0, .pointer (some ⟨c.wg, 0, none⟩))]) (fun _ => H) (fun _ => R) (fun s => s) c.snd.length (Nat.le_refl _) fun m hm K hK => ?_
  refine walk ?_
  refine ops_g (opG_call (vs := [_]) (A := []) rfl (uLoad_w0 (c := { c with st := .w0 m }) rfl rfl) .nil fun r W1 H' B hh => ?_)
  obtain ⟨eH, eB, hh⟩ := hh
  subst eH eB
  rcases hh with ⟨rfl, rfl⟩ | ⟨v, hv, hv0, rfl, rfl⟩
  · have f1 : IntKind.i32.wrap (Int.fdiv 0 4294967296) = 0 := by decide
    have f2 : bits .and .u64 0 2147483647 = 0 := by decide
    have f3 : bits .and .u64 0 2147483648 = 0 := by decide
    have f4 : IntKind.u32.wrap (bits .and .u64 0 2147483647) = 0 := by decide
    refine walk ?_
    refine ops_g (opG_mark (c := { c with st := .fin }) rfl (.ke rfl) ?_)
    refine walk ?_
    refine ops_up (c := { c with st := .ke }) rfl rfl (by decide) ?_
    refine ops_g (opG_markAt (ad := stA c.wg) (c := { c with st := .ke }) rfl rfl (.acq rfl) ?_)
    refine walk ?_
    refine finG [] ?_
    exact ⟨rfl, rfl, rfl, rfl⟩
  · have hv' : v < 2147483648 := by omega
    have f1 := st_V hv'
    have f2 := st_bub hv'
    have f3 := st_wait hv'
    have f6 : IntKind.u64.wrap ((v : Int) * KK + 1) = (v : Int) * KK + 1 := by rw [IntKind.wrap_u64]; simp only [KK]; omega
    generalize hS : (v : Int) * KK = S at f1 f2 f3 f6 ⊢
    have f4 : IntKind.u32.wrap (bits .and .u64 S 2147483647) = 0 := by rw [f3]; decide
    refine walk ?_
    refine ops_g (opG_call (vs := [_, _, _]) (A := []) rfl (uCas_w1 (c := { c with st := .w1 v }) (e1 := S) (e2 := IntKind.u64.wrap (S + 1)) rfl rfl hS.symm (by rw [f6, hS])) .nil fun r W1 H' B hh => ?_)
    obtain ⟨eH, eB, hh⟩ := hh
    subst eH eB
    rcases hh with ⟨rfl, rfl⟩ | ⟨v', hv1, rfl, rfl⟩
    · refine walk ?_
      refine ops_up (c := { c with st := .reg }) rfl rfl (by decide) ?_
      refine ops_g (opG_markAt (ad := smA c.wg) (c := { c with st := .reg }) rfl rfl (.wr rfl) ?_)
      refine walk ?_
      refine ops_g (opG_sem (c := { c with st := .reg }) rfl rfl rfl ?_)
      refine walk ?_
      refine ops_g (opG_call (vs := [_]) (A := []) rfl (uLoad_up (c := { c with st := .up }) rfl rfl) .nil fun r W1 H' B hh => ?_)
      obtain ⟨eH, eB, rfl, rfl⟩ := hh
      subst eH eB
      refine walk ?_
      refine ops_g (opG_mark (c := { c with st := .fin }) rfl (.ke rfl) ?_)
      refine walk ?_
      refine ops_up (c := { c with st := .ke }) rfl rfl (by decide) ?_
      refine ops_g (opG_markAt (ad := stA c.wg) (c := { c with st := .ke }) rfl rfl (.acq rfl) ?_)
      refine walk ?_
      refine finG [] ?_
      exact ⟨rfl, rfl, rfl, rfl⟩
    · refine walk ?_
      exact out_nextG hK v' (by omega) (by omega)
theorem big_row {LD R : List HProp} {D : Heap} {b : Nat} {T : TypeId} {cs : List Value} (h : Has LD (row b T cs) R) (hD : big LD D) : D b = some (.cells cs.toArray T (0, 0)) := by
  obtain ⟨h1, h2, a, _, _, l, _⟩ := h.to _ hD
  exact l _ _ a
theorem pool_win {c : Co} {b : Nat} {o : Obj} (hd : Disj c.base c.win) (h : c.win b = some o) : pool (.co c) b = some o := by
  rcases hd b with h' | h'
  · simp [pool, Go.X.join, h', h]
  · rw [h] at h'; cases h'
theorem hcell_of_obj {p : Heap} {b off : Nat} {T : TypeId} {cs : List Value} {fz : Nat × Nat} {v : Value} (h : p b = some (.cells cs.toArray T fz)) (hv : cs[off]? = some v) : hcell p b off = some v := by
  simp [hcell, h, hv]
abbrev vE (e : Entry) : Value := .agg e.cv.toArray
abbrev cvF (ch : Nat) (e : Entry) (more : Bool) : List Value := .chan (some ch) :: (e.cv ++ [.bool more])
def Got (W0 : GW) (c : Co) (i : Nat) (ch : Nat) (fb : Nat) (l : List Entry) (LW : List HProp) (W1 : GW) (B : List HProp) : Prop :=
  (l = [] ∧ W1 = setS W0 (.co { c with win := Heap.empty, wn := false }) ∧ B = row fb 66 (cvF ch zEntry false) :: LW) ∨
  (∃ e l', l = e :: l' ∧ W1 = setS W0 (.co { c with win := Heap.empty, wn := false, snd := c.snd.set i ⟨ch, l'.map vE⟩ }) ∧ B = row fb 66 (cvF ch e true) :: LW)
theorem next_own {W0 : GW} {H : Heap} {c : Co} {i ch fb : Nat} {l : List Entry} {e0 : Entry} {m0 : Bool} (hs : W0.s = .co c) (hst : c.st = .run) (hsh : c.shut = false) (hi : c.snd[i]? = some ⟨ch, l.map vE⟩) (hwn : c.wn = false) (hw : c.win = Heap.empty) :
    CtG Try.prog 28 #[.pointer (some ⟨fb, 0, none⟩)] W0 H [row fb 66 (cvF ch e0 m0)] (fun r W1 H' B => H' = H ∧ r = .tuple #[] ∧ Got W0 c i ch fb l [] W1 B) := by
  refine CtG.go (vs := [_]) fun R => ?_
  refine walk ?_
  refine ops_g (opG_recv (LW := []) hs hst hsh hi (by rw [hwn]; intro h; cases h) rfl trivial (by rw [hw]; exact bnd_empty) (by rw [hw]; exact fun _ => .inr rfl) (fun h => ?_) fun y ys h => ?_)
  · refine walk ?_
    refine endG [row fb 66 (cvF ch zEntry false)] ?_
    exact ⟨rfl, rfl, .inl ⟨by simpa using h, rfl, rfl⟩⟩
  · cases l with
    | nil => cases h
    | cons e l' =>
      simp only [List.map_cons, List.cons.injEq] at h
      obtain ⟨rfl, rfl⟩ := h
      refine walk ?_
      refine endG [row fb 66 (cvF ch e true)] ?_
      exact ⟨rfl, rfl, .inr ⟨e, l', rfl, rfl, rfl⟩⟩
theorem next_win {W0 : GW} {H : Heap} {c : Co} {i ch fb : Nat} {l : List Entry} {LW : List HProp} (hs : W0.s = .co c) (hst : c.st = .run) (hsh : c.shut = false) (hi : c.snd[i]? = some ⟨ch, l.map vE⟩) (hil : i + 1 = c.snd.length) (hd : Disj c.base c.win) (hbn : Bnd c.win)
    (hw : big (row fb 66 (cvF ch zEntry false) :: LW) c.win) :
    CtG Try.prog 28 #[.pointer (some ⟨fb, 0, none⟩)] W0 H [] (fun r W1 H' B => H' = H ∧ r = .tuple #[] ∧ Got W0 c i ch fb l LW W1 B) := by
  have hp : pool W0.s fb = some (.cells (cvF ch zEntry false).toArray 66 (0, 0)) := by rw [hs]; exact pool_win hd (big_row .here hw)
  refine CtG.go (vs := [_]) fun R => ?_
  refine walk ?_
  refine ops_pk1 (v := .chan (some ch)) rfl (hcell_of_obj hp rfl) ?_
  refine walk ?_
  refine ops_g (opG_recv hs hst hsh hi (fun _ => hil) rfl hw hbn hd (fun h => ?_) fun y ys h => ?_)
  · refine walk ?_
    refine endG (row fb 66 (cvF ch zEntry false) :: LW) ?_
    exact ⟨rfl, rfl, .inl ⟨by simpa using h, rfl, rfl⟩⟩
  · cases l with
    | nil => cases h
    | cons e l' =>
      simp only [List.map_cons, List.cons.injEq] at h
      obtain ⟨rfl, rfl⟩ := h
      refine walk ?_
      refine endG (row fb 66 (cvF ch e true) :: LW) ?_
      exact ⟨rfl, rfl, .inr ⟨e, l', rfl, rfl, rfl⟩⟩
end Go.Proofs.Ytjkiioicjmaeoaa
namespace Go.X
open Go Go.Sx
theorem base_le_co (c : Co) : c.base.le (pool (.co c)) := fun b o h => by simp [pool, join, h]
theorem base_le_snd (c : Cs) : c.base.le (pool (.snd c)) := fun b o h => by
  simp only [pool]; split
  · simp [join, h]
  · exact h
theorem win_le_snd {c : Cs} (hf : c.fst = true) (hd : Disj c.base c.win) : c.win.le (pool (.snd c)) := fun b o h => by
  simp only [pool, hf, if_true]
  rcases hd b with h' | h'
  · simp [join, h', h]
  · rw [h] at h'; cases h'
theorem HRow.mono {H H' : Heap} (hl : H.le H') {b off : Nat} {cs : List Value} (h : HRow H b off cs) : HRow H' b off cs := fun j v hj => hcell_mono hl (h j v hj)
section
variable {α : Type} {R : Rd α} {sz : Nat} {q : Bool} {P : Program} {n : NF} {W0 : GW} {Q : Exit → Act → GW → Prop} {F : Slots} {H H1 : Heap} {L : List HProp} {ops : Array Oper} {rest : List Oper} {k : List Fr} {ty : TypeId} {pos : String} {aft : Array Edge} {d : Tmp} {g : Option (Nat × Bool)} {v : Value}
theorem ops_ixpAt {T e : TypeId} {x y : Operand} {xs : List α} {i : Int} {j : Nat} {kd : IntKind} {gv : Option (Value × Bool)} [hR : RdOk R sz] [TSl P T e] [TSz P e sz] (hg : gval ops F g = some gv) [hb : GOk gv true] (hv : opvs F [x, y] = some [v, .int kd i]) [hi : NatOf i j]
    (hs : SlR R sz H1 v xs) (hj : j < xs.length) (hk : ∀ b off c, HRow H1 b off c → R H1 c (xs[j]'hj) → Ops P n W0 Q ((d, .pointer (some ⟨b, off, none⟩)) :: F) H L q ops rest k) (hd : Nat.blt d n = true := by rfl) :
    Ops P n W0 Q F H L q ops (⟨some d, .indexAddr T x y, ty, pos, aft, g⟩ :: rest) k := by
  obtain ⟨rfl⟩ := hi
  obtain ⟨base, cap, rfl, h1, h2⟩ := hs.shape
  obtain ⟨b, off, c, rfl, h3, h4, h5⟩ := hs.get hj
  exact ops_pure hg hd (op_indexAddr (opvs2 hv).1 (opvs2 hv).2 (by omega) (by omega)) (hk b _ c h4 h5)
end
def splitLast : List Oper → Option (List Oper × Oper)
  | [] => none
  | [o] => some ([], o)
  | o :: r => match splitLast r with
    | some (l, x) => some (o :: l, x)
    | none => none
theorem splitLast_eq : ∀ {ops l : List Oper} {o : Oper}, splitLast ops = some (l, o) → ops = l ++ [o]
  | [], l, o, h => by cases h
  | [a], l, o, h => by simp only [splitLast, Option.some.injEq, Prod.mk.injEq] at h; obtain ⟨rfl, rfl⟩ := h; rfl
  | a :: b :: r, l, o, h => by
    simp only [splitLast] at h
    split at h
    · next l' x hx => cases h; rw [splitLast_eq hx]; rfl
    · cases h
section
variable {P : Program} {n : NF} {W0 : GW} {Q : Exit → Act → GW → Prop} {F : Slots} {H : Heap} {L : List HProp} {k : List Fr}
theorem ex_quiet1' [TMix P] {id m : Nat} {ops l : List Oper} {o1 : Oper} (h0 : splitLast ops = some (l, o1)) (hml : l.length = m) (hok : flowOk ops.toArray = true) (hreach : ∀ j, j < m → Go.Sx.Reach ops.toArray m j)
    (h : ∀ Q' : Exit → Act → GW → Prop, (∀ F, Ops P n W0 Q F H L false ops.toArray [o1] k → Out P n W0 Q' F H L .normal []) → Ops P n W0 Q' F H L true ops.toArray l []) : Ex P n W0 Q F H L (.region id ops.toArray true) k := by
  have e := splitLast_eq h0
  subst e
  exact ex_quiet1 hml hreach hok (h (fun _ a w => wpListV P (l ++ [o1]).toArray (Kx P Q k) [o1] a w) fun F hF => ⟨hF.run⟩).run
end
def binding (o : Oper) : List Nat := (o.after.toList.filter fun e => Region.binds .any e).map (·.on)
def reachStep (ops : Array Oper) (S : List Nat) (i : Nat) : List Nat := if S.contains i then (match ops[i]? with | some o => binding o ++ S | none => S) else S
def reachL (ops : Array Oper) (m : Nat) : List Nat := ((List.range m).reverse).foldl (reachStep ops) (match ops[m]? with | some o => binding o | none => [])
theorem mem_binding {o : Oper} {j : Nat} (h : j ∈ binding o) : ∃ e ∈ o.after, Region.binds .any e = true ∧ e.on = j := by
  simp only [binding, List.mem_map, List.mem_filter] at h
  obtain ⟨e, ⟨h1, h2⟩, h3⟩ := h
  exact ⟨e, Array.mem_toList_iff.1 h1, h2, h3⟩
theorem reachStep_ok {ops : Array Oper} {m : Nat} {S : List Nat} (hS : ∀ j ∈ S, Go.Sx.Reach ops m j) (i : Nat) : ∀ j ∈ reachStep ops S i, Go.Sx.Reach ops m j := by
  intro j hj
  unfold reachStep at hj
  split at hj
  · rename_i hc
    split at hj
    · rename_i o ho
      rcases List.mem_append.1 hj with h | h
      · obtain ⟨e, h1, h2, rfl⟩ := mem_binding h
        exact .step (hS i (by simpa using hc)) ho h1 h2
      · exact hS j h
    · exact hS j hj
  · exact hS j hj
theorem reach_of {ops : Array Oper} {m : Nat} (h : (List.range m).all (fun j => (reachL ops m).contains j) = true) : ∀ j, j < m → Go.Sx.Reach ops m j := by
  have key : ∀ (l : List Nat) (S : List Nat), (∀ j ∈ S, Go.Sx.Reach ops m j) → ∀ j ∈ l.foldl (reachStep ops) S, Go.Sx.Reach ops m j := by
    intro l
    induction l with
    | nil => exact fun S hS => hS
    | cons i l ih => exact fun S hS => ih _ (reachStep_ok hS i)
  intro j hj
  have h1 := List.all_eq_true.1 h j (List.mem_range.2 hj)
  have h2 : j ∈ reachL ops m := by simpa using h1
  refine key _ _ ?_ j h2
  intro x hx
  split at hx
  · rename_i o ho
    obtain ⟨e, h1, h2, rfl⟩ := mem_binding hx
    exact .dep ho h1 h2
  · cases hx
end Go.X
namespace Go.Proofs.Ytjkiioicjmaeoaa
open Go Go.Sx Go.X Go.Proofs Go.Conc
open Go.ConcR (KK wgBlock WgAt stA smA rd wr mk)
theorem setS_eq {W : GW} {s : Gh} (h : W.s = s) : setS W s = W := by subst h; rfl
def Off (q q1 : Cs) : Prop := q1.closed = true ∧ q1.ty = q.ty ∧ q1.wg = q.wg ∧ q1.base = q.base
theorem send_spec {W0 : GW} {H : Heap} {q : Cs} {l : List Entry} {v : Value} (hs : W0.s = .snd q) (hrem : q.rem = l.map vE) (hoff : q.off = false) (hcl : q.closed = false) (hfd : q.fst = true → Disj q.base q.win) (hl : SlR rEntry 4 q.base v l) :
    CtG Try.prog 27 #[v, .chan (some q.ch), .chan (some q.ech)] W0 H [] (fun r W1 H' B => ∃ q1, W1 = setS W0 (.snd q1) ∧ Off q q1) := by
  refine CtG.goShut (vs := [_, _, _]) (ats := #[88]) (t := 0) (kc := #[false]) (ch := q.ch) rfl fun R => ?_
  obtain ⟨b0, c0, rfl, hc0, hd0⟩ := hl.shape
  refine walk ?_
  refine ops_deferClose rfl ?_
  refine walk ?_
  refine ex_loopG (fun s : Cs × Nat => s.2 ≤ l.length ∧ s.1.rem = (l.drop s.2).map vE ∧ s.1.off = false ∧ s.1.closed = false ∧ (s.1.fst = true → Disj s.1.base s.1.win) ∧ s.1.ty = q.ty ∧ s.1.wg = q.wg ∧ s.1.base = q.base ∧ s.1.ch = q.ch ∧ s.1.ech = q.ech)
    (fun s => setS W0 (.snd s.1)) (fun s => [(11, .int .i64 s.2), (10, .int .i64 l.length), (9, .slice b0 l.length c0), (1, .chan (some q.ch)), (2, .chan (some q.ech))]) (fun _ => H) (fun _ => R) (fun s => l.length - s.2) (q, 0)
    ⟨Nat.zero_le _, by simpa using hrem, hoff, hcl, hfd, rfl, rfl, rfl, rfl, rfl⟩ (fun ⟨q', i⟩ hI K hK => ?_) (hw0 := setS_eq hs)
  obtain ⟨i1, i2, i3, i4, i5, i6, i7, i8, i9, i10⟩ := hI
  simp only at i1 i2 i3 i4 i5 i6 i7 i8 i9 i10
  by_cases hlt : i < l.length
  · refine walk ?_
    refine ops_ixpAt rfl rfl hl hlt fun b off c h1 h2 => ?_
    obtain ⟨rfl, -⟩ := h2
    refine ops_pkN rfl ((h1.mono (by rw [← i8]; exact base_le_snd _)) : HRow (pool (.snd q')) b off _) rfl ?_ (hm := by simp)
    refine walk ?_
    refine ops_alloc rfl fun p _ => ?_
    refine walk ?_
    have hrm : q'.rem = vE l[i] :: (l.drop (i + 1)).map vE := by rw [i2, List.drop_eq_getElem_cons hlt]; rfl
    refine ops_g (opG_sel (c := q') rfl hrm i3 i4 i5 (by rw [i9]; rfl) rfl (by rw [i10]; rfl) ?_ ?_)
    · refine walk ?_
      refine out_nextG hK ({ q' with rem := (l.drop (i + 1)).map vE, fst := false }, i + 1) ⟨hlt, rfl, i3, i4, (fun h => by cases h), i6, i7, i8, i9, i10⟩
    · refine walk ?_
      refine outD (.inr rfl) rfl fun w hw => ⟨setS W0 (.snd { q' with off := true, fst := false }), { q' with off := true, fst := false }, H, [], rfl, i9, .inr rfl, i4, (fun h => by cases h), ⟨_, rfl, rfl, i6, i7, i8⟩, hw.sub ?_⟩
      exact .drop (.refl _)
  · refine walk ?_
    have hi : i = l.length := by omega
    subst hi
    refine outD (.inl rfl) rfl fun w hw => ⟨setS W0 (.snd q'), q', H, [], rfl, i9, .inl (by rw [i2]; simp), i4, i5, ⟨_, rfl, rfl, i6, i7, i8⟩, hw⟩
theorem kid_first {W0 : GW} {q : Cs} {v : Value} {l : List Entry} {lb pb fb eb : Nat} (hty : q.ty = 61) (hrem : q.rem = l.map vE) (hfst : q.fst = true) (hoff : q.off = false) (hcl : q.closed = false) (hd : Disj q.base q.win) (hl : SlR rEntry 4 q.base v l)
    (h1 : q.win lb = some (.cells [v].toArray 25 (0, 0))) (h2 : q.win pb = some (.cells [.pointer (some ⟨fb, 0, none⟩)].toArray 63 (0, 0))) (h3 : q.win fb = some (.cells (cvF q.ch zEntry false).toArray 66 (0, 0))) (h4 : q.base eb = some (.cells [.chan (some q.ech)].toArray 51 (0, 0))) :
    KidOk Try.prog W0 { target := .fn (.func 25) #[.pointer (some ⟨q.wg, 0, none⟩), .pointer (some ⟨lb, 0, none⟩), .pointer (some ⟨pb, 0, none⟩), .pointer (some ⟨eb, 0, none⟩)], args := #[] } q := by
  refine kid_ok (cap := [_, _, _, _]) wgLib rfl (by kernel_rfl) hty ⟨eb, _, _, _, _, h4, rfl⟩ rfl ?_
  refine walk ?_
  refine ops_defer (vs := [_]) rfl ?_
  refine ops_nil (out_seq (ex_quiet1' (m := 6) rfl rfl (by decide +kernel) ?_ fun Q' hQ => ?_))
  · exact reach_of (by decide +kernel)
  · have p1 := hcell_of_obj (off := 0) (win_le_snd hfst hd _ _ h1) rfl
    have p2 := hcell_of_obj (off := 0) (win_le_snd hfst hd _ _ h2) rfl
    have p3 := hcell_of_obj (off := 0) (win_le_snd hfst hd _ _ h3) rfl
    have p4 := hcell_of_obj (off := 0) (base_le_snd q _ _ h4) rfl
    refine ops_pk1 rfl p1 ?_
    refine ops_pk1 rfl p2 ?_
    refine ops_p rfl rfl ?_
    refine ops_p rfl rfl ?_
    refine ops_pk1 rfl p3 ?_
    refine ops_pk1 rfl p4 ?_
    refine ops_nil (hQ _ ?_)
    refine ops_g (opG_call (vs := [_, _, _]) (A := []) rfl (send_spec (q := q) rfl hrem hoff hcl (fun _ => hd) hl) .nil fun r W1 H' B hh => ?_)
    obtain ⟨q1, rfl, g1, g2, g3, g4⟩ := hh
    refine ops_nil (outD (.inl rfl) rfl fun w hw => ⟨q1, hw.sh, g1, g2, g3, g4⟩)
end Go.Proofs.Ytjkiioicjmaeoaa
