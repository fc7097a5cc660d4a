/- (*front).next, by the company's starter. -/
import Derived.Test.YtjkiioicjmaeoaaOMA
set_option linter.unusedVariables false
set_option linter.unusedSimpArgs false
namespace Go.X
open Go Go.Sx
section
variable {P : Program} {n : NF} {W0 : GW} {F : Slots} {H : Heap} {L : List HProp} {Q : Exit → Act → GW → Prop} {k : List Fr}
theorem cx_loopG {c : Code} {σ : Type} (I : σ → Prop) (mW : σ → GW) (mF : σ → Slots) (mH : σ → Heap) (mL : σ → List HProp) (μ : σ → Nat) (s0 : σ) (h0 : I s0) (hs0 : Sub L (mL s0)) (hf0 : fsub (mF s0) F) (hh0 : mH s0 = H) (hw0 : mW s0 = W0)
    (round : ∀ s, I s → ∀ K : Act → GW → Prop, (∀ s', I s' → μ s' < μ s → Sat n (mW s') (mF s') (mH s') (mL s') K) → Sat n (mW s) (mF s) (mH s) (mL s) (c.wpV P (thenX K Q))) :
    Sat n W0 F H L ((Code.loop c).wpV P Q) := by
  subst hh0 hw0
  refine Sat.sub (F' := mF s0) (L' := mL s0) ?_ hs0 hf0
  intro a w hF hS Wr h1 b k cs hb hc
  have key : ∀ m s a (w : GW), I s → μ s = m → FrOk n a (mF s) → StG (mW s) (mH s) w (mL s) → Sm Wr w → MI P kd Wr.toWorld (SB P Wr) (Go.Conc.G (b.at a (.code c :: .inLoop c :: k)) cs) (xw w) := by
    intro m
    induction m using Nat.strongRecOn with
    | _ m ih =>
      intro s a w hI hm hF hS h1
      refine round s hI (fun a' w' => ∃ s', I s' ∧ μ s' < μ s ∧ FrOk n a' (mF s') ∧ StG (mW s') (mH s') w' (mL s')) (fun s' hI' hs' a' w' hF' hS' => ⟨s', hI', hs', hF', hS'⟩) a w hF hS Wr h1 b (.inLoop c :: k) cs hb fun e a' x' hq => ?_
      cases e with
      | normal =>
        obtain ⟨w', r, s', hI', hlt, hF', hS'⟩ := hq
        rw [r.eq]
        exact .ctl rfl (fun _ _ => Go.Conc.stepG_inLoop) (ih (μ s') (hm ▸ hlt) s' a' w' hI' rfl hF' hS' r.sm)
      | exit id => exact (hc _ _ _ hq).push rfl (by simp)
      | goto l => exact (hc _ _ _ hq).push (i := .inLoop c) rfl (by simp)
      | ret => exact (hc _ _ _ hq).push (i := .inLoop c) rfl (by simp)
      | panic ch => exact hc _ _ _ hq
      | outgrown => exact hc _ _ _ hq
  exact .ctl rfl (fun _ _ => Go.Conc.stepG_loop) (key _ s0 a w h0 rfl hF hS h1)
theorem ex_cutG {x y : Code} {σ : Type} (I : σ → Prop) (mW : σ → GW) (mF : σ → Slots) (mH : σ → Heap) (mL : σ → List HProp)
    (h : ∀ K : Act → GW → Prop, (∀ s, I s → Sat n (mW s) (mF s) (mH s) (mL s) K) → Ex P n W0 Q F H L x (.cut K :: k)) (h2 : ∀ s, I s → Ex P n (mW s) Q (mF s) (mH s) (mL s) y k) : Ex P n W0 Q F H L (.seq x y) k :=
  ⟨fun a w hF hS => wpV_seq ((h (y.wpV P (Kx P Q k)) fun s hs => (h2 s hs).run).run a w hF hS)⟩
theorem ex_loopG {c : Code} {σ : Type} (I : σ → Prop) (mW : σ → GW) (mF : σ → Slots) (mH : σ → Heap) (mL : σ → List HProp) (μ : σ → Nat) (s0 : σ) (h0 : I s0)
    (round : ∀ s, I s → ∀ K : Act → GW → Prop, (∀ s', I s' → μ s' < μ s → Sat n (mW s') (mF s') (mH s') (mL s') K) → Ex P n (mW s) Q (mF s) (mH s) (mL s) c (.cut K :: k))
    (hs0 : Sub L (mL s0) := by (try dsimp only); (repeat (first | exact Go.Sx.Sub.refl _ | exact Go.Sx.Sub.nil _ | (apply Go.Sx.sub_pick; (repeat (first | exact Go.Sx.Has.here | apply Go.Sx.Has.there)); skip) | apply Go.Sx.Sub.drop)))
    (hf0 : fsub (mF s0) F := by (try dsimp only); repeat (first | exact Go.Sx.fsub_nil _ | refine Go.Sx.fsub_cons rfl ?_)) (hh0 : mH s0 = H := by rfl) (hw0 : mW s0 = W0 := by rfl) :
    Ex P n W0 Q F H L (.loop c) k := ⟨cx_loopG I mW mF mH mL μ s0 h0 hs0 hf0 hh0 hw0 fun s hs K hK => (round s hs K hK).run⟩
theorem out_nextG {σ : Type} {I : σ → Prop} {mW : σ → GW} {mF : σ → Slots} {mH : σ → Heap} {mL : σ → List HProp} {μ : σ → Nat} {s : σ} {K : Act → GW → Prop} (hL : ∀ s', I s' → μ s' < μ s → Sat n (mW s') (mF s') (mH s') (mL s') K) (s' : σ) (hI : I s') (hμ : μ s' < μ s := by (try dsimp only); omega)
    (hs : Sub L (mL s') := by (try dsimp only); (repeat (first | exact Go.Sx.Sub.refl _ | exact Go.Sx.Sub.nil _ | (apply Go.Sx.sub_pick; (repeat (first | exact Go.Sx.Has.here | apply Go.Sx.Has.there)); skip) | apply Go.Sx.Sub.drop)))
    (hf : fsub (mF s') F := by (try dsimp only); repeat (first | exact Go.Sx.fsub_nil _ | refine Go.Sx.fsub_cons rfl ?_)) (hh : mH s' = H := by rfl) (hw : mW s' = W0 := by rfl) : Out P n W0 Q F H L .normal (.cut K :: k) := by
  subst hh hw; exact ⟨(hL s' hI hμ).sub hs hf⟩
theorem out_toG {σ : Type} {I : σ → Prop} {mW : σ → GW} {mF : σ → Slots} {mH : σ → Heap} {mL : σ → List HProp} {K : Act → GW → Prop} (hL : ∀ s', I s' → Sat n (mW s') (mF s') (mH s') (mL s') K) (s' : σ) (hI : I s')
    (hs : Sub L (mL s') := by (try dsimp only); (repeat (first | exact Go.Sx.Sub.refl _ | exact Go.Sx.Sub.nil _ | (apply Go.Sx.sub_pick; (repeat (first | exact Go.Sx.Has.here | apply Go.Sx.Has.there)); skip) | apply Go.Sx.Sub.drop)))
    (hf : fsub (mF s') F := by (try dsimp only); repeat (first | exact Go.Sx.fsub_nil _ | refine Go.Sx.fsub_cons rfl ?_)) (hh : mH s' = H := by rfl) (hw : mW s' = W0 := by rfl) : Out P n W0 Q F H L .normal (.cut K :: k) := by
  subst hh hw; exact ⟨(hL s' hI).sub hs hf⟩
end
end Go.X
namespace Go.Proofs.Ytjkiioicjmaeoaa
open Go Go.Sx Go.X Go.Proofs
open Go.ConcR (KK wgBlock WgAt stA smA rd wr mk)
theorem uLoad_w0 {W0 : GW} {H : Heap} {c : Co} {m : Nat} (hs : W0.s = .co c) (hst : c.st = .w0 m) :
    CtG Try.prog 46 #[.pointer (some ⟨c.wg, 0, none⟩)] W0 H [] (fun r W1 H' B => H' = H ∧ B = [] ∧ ((r = .int .u64 0 ∧ W1 = setS W0 (.co { c with st := .fin })) ∨ ∃ v : Nat, v ≤ m ∧ v ≠ 0 ∧ r = .int .u64 (v * KK) ∧ W1 = setS W0 (.co { c with st := .w1 v }))) := by
  refine CtG.go (vs := [_]) fun R => ?_
  refine walk ?_
  refine ops_g (opG_load hs hst rfl ?_ fun v h1 h2 => ?_)
  · refine walk ?_
    refine finG [] ?_
    exact ⟨rfl, rfl, .inl ⟨rfl, rfl⟩⟩
  · refine walk ?_
    refine finG [] ?_
    exact ⟨rfl, rfl, .inr ⟨v, h1, h2, rfl, rfl⟩⟩
theorem uLoad_up {W0 : GW} {H : Heap} {c : Co} (hs : W0.s = .co c) (hst : c.st = .up) :
    CtG Try.prog 46 #[.pointer (some ⟨c.wg, 0, none⟩)] W0 H [] (fun r W1 H' B => H' = H ∧ B = [] ∧ r = .int .u64 0 ∧ W1 = setS W0 (.co { c with st := .fin })) := by
  refine CtG.go (vs := [_]) fun R => ?_
  refine walk ?_
  refine ops_g (opG_load0 hs hst rfl ?_)
  refine walk ?_
  refine finG [] ?_
  exact ⟨rfl, rfl, rfl, rfl⟩
theorem uAdd_off {W0 : GW} {H : Heap} {c : Co} (hs : W0.s = .co c) (hst : c.st = .off) (hlen : c.snd.length < 2147483648) :
    CtG Try.prog 44 #[.pointer (some ⟨c.wg, 0, none⟩), .int .u64 4294967296] W0 H [] (fun r W1 H' B => H' = H ∧ B = [] ∧ ∃ v : Nat, v ≤ c.snd.length ∧ r = .int .u64 ((v + 1 : Nat) * KK) ∧ W1 = setS W0 (.co { c with st := .adm })) := by
  refine CtG.go (vs := [_, _]) fun R => ?_
  refine walk ?_
  refine ops_g (opG_add hs hst hlen rfl rfl fun v h1 => ?_)
  refine walk ?_
  refine finG [] ?_
  exact ⟨rfl, rfl, v, h1, rfl, rfl⟩
theorem uCas_w1 {W0 : GW} {H : Heap} {c : Co} {u : Nat} {e1 e2 : Int} (hs : W0.s = .co c) (hst : c.st = .w1 u) (q1 : e1 = u * KK) (q2 : e2 = u * KK + 1) :
    CtG Try.prog 52 #[.pointer (some ⟨c.wg, 0, none⟩), .int .u64 e1, .int .u64 e2] W0 H [] (fun r W1 H' B => H' = H ∧ B = [] ∧ ((r = .bool true ∧ W1 = setS W0 (.co { c with st := .reg })) ∨ ∃ v : Nat, v < u ∧ r = .bool false ∧ W1 = setS W0 (.co { c with st := .w0 v }))) := by
  refine CtG.go (vs := [_, _, _]) fun R => ?_
  refine walk ?_
  refine ops_g (opG_cas hs hst rfl rfl rfl q1 q2 ?_ fun v h1 => ?_)
  · refine walk ?_
    refine finG [] ?_
    exact ⟨rfl, rfl, .inl ⟨rfl, rfl⟩⟩
  · refine walk ?_
    refine finG [] ?_
    exact ⟨rfl, rfl, .inr ⟨v, h1, rfl, rfl⟩⟩
end Go.Proofs.Ytjkiioicjmaeoaa
namespace Go.Proofs.Ytjkiioicjmaeoaa
open Go Go.Sx Go.X Go.Proofs Go.Conc
open Go.ConcR (KK wgBlock WgAt stA smA rd wr mk)
theorem add_spec {W0 : GW} {H : Heap} {c : Co} (hs : W0.s = .co c) (hst : c.st = .run) (hsh : c.shut = false) (hwn : c.wn = false) (hlen : c.snd.length + 2 < 2147483648) :
    CtG Try.prog 24 #[.pointer (some ⟨c.wg, 0, none⟩), .int .i64 1] W0 H [] (fun r W1 H' B => H' = H ∧ B = [] ∧ r = .tuple #[] ∧ W1 = setS W0 (.co { c with st := .pend })) := by
  refine CtG.goMark (fe := 39) (vs := [_, _]) rfl fun R => ?_
  refine walk ?_
  refine ops_g (opG_mark hs (.off hst hsh hwn) ?_)
  refine walk ?_
  refine ops_defer (vs := []) rfl ?_
  refine walk ?_
  refine ops_g (op_const ?_)
  refine walk ?_
  rw [show IntKind.u64.wrap (IntKind.u64.wrap 1 * 4294967296) = 4294967296 by decide]
  refine ops_g (opG_call (vs := [_, _]) (A := []) rfl (uAdd_off (c := { c with st := .off }) rfl rfl (by simp only; omega)) .nil fun r W1 H' B hh => ?_)
  obtain ⟨eH, eB, v, hv, rfl, rfl⟩ := hh
  subst eH eB
  have hv' : v + 1 < 2147483648 := by simp only at hv; omega
  have f1 := st_V hv'
  have f2 := st_bub hv'
  have f3 := st_wait hv'
  generalize hS : ((v + 1 : Nat) : Int) * KK = S at f1 f2 f3 ⊢
  have f4 : IntKind.u32.wrap (bits .and .u64 S 2147483647) = 0 := by rw [f3]; decide
  have f5 : IntKind.i32.wrap 1 = 1 := by decide
  refine walk ?_
  refine ex_if rfl (fun h => ?_) (fun h => ?_)
  · refine walk ?_
    refine ops_up (c := { c with st := .adm }) rfl rfl (by decide) ?_
    refine ops_g (opG_markAt (ad := smA c.wg) (c := { c with st := .adm }) rfl rfl (.rd rfl) ?_)
    refine walk ?_
    refine outD (.inr rfl) rfl fun w hw => ⟨setS W0 (.co { c with st := .adm }), { c with st := .adm }, .pend, _, [], rfl, .on rfl, ⟨rfl, rfl, rfl, rfl⟩, hw⟩
  · refine walk ?_
    refine outD (.inr rfl) rfl fun w hw => ⟨setS W0 (.co { c with st := .adm }), { c with st := .adm }, .pend, _, [], rfl, .on rfl, ⟨rfl, rfl, rfl, rfl⟩, hw⟩
theorem wait_spec {W0 : GW} {H : Heap} {c : Co} (hs : W0.s = .co c) (hst : c.st = .run) (hsh : c.shut = true) (hwn : c.wn = false) (hlen : c.snd.length + 2 < 2147483648) :
    CtG Try.prog 30 #[.pointer (some ⟨c.wg, 0, none⟩)] W0 H [] (fun r W1 H' B => H' = H ∧ B = [] ∧ r = .tuple #[] ∧ W1 = setS W0 (.co { c with st := .done })) := by
  refine CtG.go (vs := [_]) fun R => ?_
  refine walk ?_
  refine ops_g (opG_mark hs (.wait hst hsh hwn) ?_)
  refine walk ?_
  refine ex_loopG (fun s : Nat => s ≤ c.snd.length) (fun s => setS W0 (.co { c with st := .w0 s })) (fun _ => [(0, .pointer (some ⟨c.wg, 0, none⟩))]) (fun _ => H) (fun _ => R) (fun s => s) c.snd.length (Nat.le_refl _) fun m hm K hK => ?_
  refine walk ?_
  refine ops_g (opG_call (vs := [_]) (A := []) rfl (uLoad_w0 (c := { c with st := .w0 m }) rfl rfl) .nil fun r W1 H' B hh => ?_)
  obtain ⟨eH, eB, hh⟩ := hh
  subst eH eB
  rcases hh with ⟨rfl, rfl⟩ | ⟨v, hv, hv0, rfl, rfl⟩
  · have f1 : IntKind.i32.wrap (Int.fdiv 0 4294967296) = 0 := by decide
    have f2 : bits .and .u64 0 2147483647 = 0 := by decide
    have f3 : bits .and .u64 0 2147483648 = 0 := by decide
    have f4 : IntKind.u32.wrap (bits .and .u64 0 2147483647) = 0 := by decide
    refine walk ?_
    refine ops_g (opG_mark (c := { c with st := .fin }) rfl (.ke rfl) ?_)
    refine walk ?_
    refine ops_up (c := { c with st := .ke }) rfl rfl (by decide) ?_
    refine ops_g (opG_markAt (ad := stA c.wg) (c := { c with st := .ke }) rfl rfl (.acq rfl) ?_)
    refine walk ?_
    refine finG [] ?_
    exact ⟨rfl, rfl, rfl, rfl⟩
  · have hv' : v < 2147483648 := by omega
    have f1 := st_V hv'
    have f2 := st_bub hv'
    have f3 := st_wait hv'
    have f6 : IntKind.u64.wrap ((v : Int) * KK + 1) = (v : Int) * KK + 1 := by rw [IntKind.wrap_u64]; simp only [KK]; omega
    generalize hS : (v : Int) * KK = S at f1 f2 f3 f6 ⊢
    have f4 : IntKind.u32.wrap (bits .and .u64 S 2147483647) = 0 := by rw [f3]; decide
    refine walk ?_
    refine ops_g (opG_call (vs := [_, _, _]) (A := []) rfl (uCas_w1 (c := { c with st := .w1 v }) (e1 := S) (e2 := IntKind.u64.wrap (S + 1)) rfl rfl hS.symm (by rw [f6, hS])) .nil fun r W1 H' B hh => ?_)
    obtain ⟨eH, eB, hh⟩ := hh
    subst eH eB
    rcases hh with ⟨rfl, rfl⟩ | ⟨v', hv1, rfl, rfl⟩
    · refine walk ?_
      refine ops_up (c := { c with st := .reg }) rfl rfl (by decide) ?_
      refine ops_g (opG_markAt (ad := smA c.wg) (c := { c with st := .reg }) rfl rfl (.wr rfl) ?_)
      refine walk ?_
      refine ops_g (opG_sem (c := { c with st := .reg }) rfl rfl rfl ?_)
      refine walk ?_
      refine ops_g (opG_call (vs := [_]) (A := []) rfl (uLoad_up (c := { c with st := .up }) rfl rfl) .nil fun r W1 H' B hh => ?_)
      obtain ⟨eH, eB, rfl, rfl⟩ := hh
      subst eH eB
      refine walk ?_
      refine ops_g (opG_mark (c := { c with st := .fin }) rfl (.ke rfl) ?_)
      refine walk ?_
      refine ops_up (c := { c with st := .ke }) rfl rfl (by decide) ?_
      refine ops_g (opG_markAt (ad := stA c.wg) (c := { c with st := .ke }) rfl rfl (.acq rfl) ?_)
      refine walk ?_
      refine finG [] ?_
      exact ⟨rfl, rfl, rfl, rfl⟩
    · refine walk ?_
      exact out_nextG hK v' (by omega) (by omega)
theorem big_row {LD R : List HProp} {D : Heap} {b : Nat} {T : TypeId} {cs : List Value} (h : Has LD (row b T cs) R) (hD : big LD D) : D b = some (.cells cs.toArray T (0, 0)) := by
  obtain ⟨h1, h2, a, _, _, l, _⟩ := h.to _ hD
  exact l _ _ a
theorem pool_win {c : Co} {b : Nat} {o : Obj} (hd : Disj c.base c.win) (h : c.win b = some o) : pool (.co c) b = some o := by
  rcases hd b with h' | h'
  · simp [pool, Go.X.join, h', h]
  · rw [h] at h'; cases h'
theorem hcell_of_obj {p : Heap} {b off : Nat} {T : TypeId} {cs : List Value} {fz : Nat × Nat} {v : Value} (h : p b = some (.cells cs.toArray T fz)) (hv : cs[off]? = some v) : hcell p b off = some v := by
  simp [hcell, h, hv]
abbrev vE (e : Entry) : Value := .agg e.cv.toArray
abbrev cvF (ch : Nat) (e : Entry) (more : Bool) : List Value := .chan (some ch) :: (e.cv ++ [.bool more])
def Got (W0 : GW) (c : Co) (i : Nat) (ch : Nat) (fb : Nat) (l : List Entry) (LW : List HProp) (W1 : GW) (B : List HProp) : Prop :=
  (l = [] ∧ W1 = setS W0 (.co { c with win := Heap.empty, wn := false }) ∧ B = row fb 66 (cvF ch zEntry false) :: LW) ∨
  (∃ e l', l = e :: l' ∧ W1 = setS W0 (.co { c with win := Heap.empty, wn := false, snd := c.snd.set i ⟨ch, l'.map vE⟩ }) ∧ B = row fb 66 (cvF ch e true) :: LW)
theorem next_own {W0 : GW} {H : Heap} {c : Co} {i ch fb : Nat} {l : List Entry} {e0 : Entry} {m0 : Bool} (hs : W0.s = .co c) (hst : c.st = .run) (hsh : c.shut = false) (hi : c.snd[i]? = some ⟨ch, l.map vE⟩) (hwn : c.wn = false) (hw : c.win = Heap.empty) :
    CtG Try.prog 28 #[.pointer (some ⟨fb, 0, none⟩)] W0 H [row fb 66 (cvF ch e0 m0)] (fun r W1 H' B => H' = H ∧ r = .tuple #[] ∧ Got W0 c i ch fb l [] W1 B) := by
  refine CtG.go (vs := [_]) fun R => ?_
  refine walk ?_
  refine ops_g (opG_recv (LW := []) hs hst hsh hi (by rw [hwn]; intro h; cases h) rfl trivial (by rw [hw]; exact bnd_empty) (by rw [hw]; exact fun _ => .inr rfl) (fun h => ?_) fun y ys h => ?_)
  · refine walk ?_
    refine endG [row fb 66 (cvF ch zEntry false)] ?_
    exact ⟨rfl, rfl, .inl ⟨by simpa using h, rfl, rfl⟩⟩
  · cases l with
    | nil => cases h
    | cons e l' =>
      simp only [List.map_cons, List.cons.injEq] at h
      obtain ⟨rfl, rfl⟩ := h
      refine walk ?_
      refine endG [row fb 66 (cvF ch e true)] ?_
      exact ⟨rfl, rfl, .inr ⟨e, l', rfl, rfl, rfl⟩⟩
theorem next_win {W0 : GW} {H : Heap} {c : Co} {i ch fb : Nat} {l : List Entry} {LW : List HProp} (hs : W0.s = .co c) (hst : c.st = .run) (hsh : c.shut = false) (hi : c.snd[i]? = some ⟨ch, l.map vE⟩) (hil : i + 1 = c.snd.length) (hd : Disj c.base c.win) (hbn : Bnd c.win)
    (hw : big (row fb 66 (cvF ch zEntry false) :: LW) c.win) :
    CtG Try.prog 28 #[.pointer (some ⟨fb, 0, none⟩)] W0 H [] (fun r W1 H' B => H' = H ∧ r = .tuple #[] ∧ Got W0 c i ch fb l LW W1 B) := by
  have hp : pool W0.s fb = some (.cells (cvF ch zEntry false).toArray 66 (0, 0)) := by rw [hs]; exact pool_win hd (big_row .here hw)
  refine CtG.go (vs := [_]) fun R => ?_
  refine walk ?_
  refine ops_pk1 (v := .chan (some ch)) rfl (hcell_of_obj hp rfl) ?_
  refine walk ?_
  refine ops_g (opG_recv hs hst hsh hi (fun _ => hil) rfl hw hbn hd (fun h => ?_) fun y ys h => ?_)
  · refine walk ?_
    refine endG (row fb 66 (cvF ch zEntry false) :: LW) ?_
    exact ⟨rfl, rfl, .inl ⟨by simpa using h, rfl, rfl⟩⟩
  · cases l with
    | nil => cases h
    | cons e l' =>
      simp only [List.map_cons, List.cons.injEq] at h
      obtain ⟨rfl, rfl⟩ := h
      refine walk ?_
      refine endG (row fb 66 (cvF ch e true) :: LW) ?_
      exact ⟨rfl, rfl, .inr ⟨e, l', rfl, rfl, rfl⟩⟩
end Go.Proofs.Ytjkiioicjmaeoaa
