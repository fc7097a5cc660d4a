/- Entries without a body as special steps: marks, atomics, the semaphore. No program in sight. -/
import Derived.Test.YtafhinjggdknjaaDoorPZA
import Derived.Conc.WgGenW
import Derived.Conc.WgArith
set_option linter.unusedVariables false
set_option linter.unusedSimpArgs false
namespace Go.X
open Go Go.Sx Go.Conc Go.ConcN
open Go.ConcR (KK wgBlock WgAt stA smA rd wr mk)
def CtG (P : Program) (f : FuncId) (vs : Array Value) (W0 : GW) (H : Heap) (A : List HProp) (Post : Value → GW → Heap → List HProp → Prop) : Prop :=
  ∀ (w : GW) R, StG W0 H w (A ++ R) → CallsV P f vs w fun e w' => ∃ r W1 H' B, e = .returned r ∧ Post r W1 H' B ∧ StG W1 H' w' (B ++ R)
def RetOkG (Post : Value → GW → Heap → List HProp → Prop) (R : List HProp) : Ending → GW → Prop :=
  fun e w' => ∃ r W1 H' B, e = .returned r ∧ Post r W1 H' B ∧ StG W1 H' w' (B ++ R)
theorem frOk_par {k : Nat} {fn : Func} {vs : List Value} (hn : fn.ntmps = k) (hl : Nat.ble vs.length k = true) :
    FrOk ⟨k, []⟩ { tmps := vs.toArray ++ Array.replicate (fn.ntmps - vs.toArray.size) undef, defers := [] } (parF 0 vs) := by
  have hF := parF_params 0 vs
  have hl' : vs.length ≤ k := by simpa using hl
  refine ⟨by simp [hn]; omega, rfl, ?_⟩
  have key : ∀ i vs F, Params i vs F → ∀ t v, fget F t = some v → i ≤ t ∧ vs[t - i]? = some v := by
    intro i vs F hp
    induction hp with
    | nil => intro t v h; simp [fget] at h
    | @cons i v vs F _ ih =>
      intro t u h
      rw [fget_cons] at h
      by_cases e : i = t
      · subst e; simp at h; subst h; simp
      · simp only [e, if_false] at h
        have h1 := ih t u h
        refine ⟨by omega, ?_⟩
        have h2 : t - i = (t - (i + 1)) + 1 := by omega
        rw [h2]; simpa using h1.2
  intro t v ht
  have h1 := key 0 vs _ hF t v ht
  have h2 : vs[t]? = some v := by simpa using h1.2
  have h3 : t < vs.length := (List.getElem?_eq_some_iff.1 h2).1
  rw [Array.getElem?_append]
  have h4 : vs[t] = v := by rw [List.getElem?_eq_getElem h3] at h2; exact Option.some.inj h2
  simp [h3, h4]
section
variable {q : Bool} {P : Program} {n : NF} {W0 w : GW} {Q : Exit → Act → GW → Prop} {F : Slots} {H : Heap} {L : List HProp} {ops : Array Oper} {rest : List Oper} {k : List Fr} {op : Op} {ty : TypeId} {pos : String} {aft : Array Edge} {d : Tmp} {dst : Option Tmp} {g : Option (Nat × Bool)} {K : Value → GW → Heap → List HProp → Prop}
theorem CtG.go {k : Nat} {f : FuncId} {fn : Func} {c : Code} {vs : List Value} {A : List HProp} {Post : Value → GW → Heap → List HProp → Prop} [hb : TBody P f fn c k]
    (h : ∀ R, Ex P ⟨k, []⟩ W0 (bodyPostV P fn (RetOkG Post R)) (parF 0 vs) H (A ++ R) c []) (hl : Nat.ble vs.length k = true := by rfl) : CtG P f vs.toArray W0 H A Post :=
  fun w R hS => callsV_of hb.get hb.body ((h R).run _ w (frOk_par hb.ntmps hl) hS)
theorem retG {fn : Func} {Post : Value → GW → Heap → List HProp → Prop} {R B : List HProp} {rs : List ResultVar} {vs : List Value} {v : Value} (hfn : fn.results = rs.toArray) (hr : ResR P F L rs vs) (hv : tup vs = v)
    (hp : Post v W0 H B) (hs : Sub L (B ++ R)) (hD : n.D = []) : Sat n W0 F H L (fun a w => ∀ e, (e = Exit.normal ∨ e = Exit.ret) → bodyPostV P fn (RetOkG Post R) e a w) :=
  fun _ _ hF hS e he => ⟨he, hF.defs.trans hD, v, reads_of hS fun {W1} w hS => results_run hfn hr hv hF hS, v, W0, H, B, rfl, hp, hS.sub hs⟩
theorem finG {fn : Func} {Post : Value → GW → Heap → List HProp → Prop} {R : List HProp} {rs : List ResultVar} {vs : List Value} {v : Value} (B : List HProp) (hp : Post v W0 H B) (hfn : fn.results = rs.toArray := by rfl)
    (hr : ResR P F L rs vs := by repeat (first | exact Go.Sx.ResR.nil | (apply Go.Sx.ResR.tmp; (exact rfl)) | (apply Go.Sx.ResR.cell1; (exact inferInstance); (exact rfl); (repeat (first | exact Go.Sx.Has.here | apply Go.Sx.Has.there)); (exact rfl)) | (apply Go.Sx.ResR.cellN; (exact inferInstance); (exact inferInstance); (exact rfl); (repeat (first | exact Go.Sx.Has.here | apply Go.Sx.Has.there)); (exact Go.Sx.pickC_pick rfl))))
    (hv : tup vs = v := by first | exact Go.Sx.tup_one | exact Go.Sx.tup_many | rfl)
    (hs : Sub L (B ++ R) := by (try dsimp only [List.nil_append, List.cons_append, List.append_nil]); (repeat (first | exact Go.Sx.Sub.refl _ | exact Go.Sx.Sub.nil _ | (apply Go.Sx.sub_pick; (repeat (first | exact Go.Sx.Has.here | apply Go.Sx.Has.there)); skip) | apply Go.Sx.Sub.drop))) (hD : n.D = [] := by rfl) :
    Out P n W0 (bodyPostV P fn (RetOkG Post R)) F H L .ret [] := ⟨fun a w hF hS => retG hfn hr hv hp hs hD a w hF hS _ (.inr rfl)⟩
theorem opG_call {f : FuncId} {l : List Operand} {at_ : Array TypeId} {vs : List Value} {A R : List HProp} {Post : Value → GW → Heap → List HProp → Prop} [hf : TFn P f] (ha : opvs F l = some vs)
    (hs : CtG P f vs.toArray W0 H A Post) (ht : Take L A R) (hk : ∀ r W1 H' B, Post r W1 H' B → K r W1 H' (B ++ R)) :
    OpG P n W0 ⟨dst, .call ⟨.value (.func f), l.toArray, at_⟩, ty, pos, aft, g⟩ F H L K := by
  intro a w next Q hF hS hn
  have hm := (opvs_args ha).eval hF
  refine wpV_of_yV (callV_of (f := f) (args := vs.toArray) (fun w => ?_) (fun w => ?_) (CallsV.mono (hs w R (hS.sub ht.to)) ?_))
  · simp only [execOp, resolve, Act.eval]
    simp [Deferred.ofValue, invoke, hf.run, hm]
  · simp only [execOp, resolve, Act.eval]
    simp [Deferred.ofValue, invoke, hm, hf.events]
  · rintro e w' ⟨r, W1, H', B, rfl, hp, hs'⟩
    exact ⟨r, rfl, hn r W1 H' (B ++ R) w' (hk r W1 H' B hp) hs'⟩
def Rle (H H' : Heap) : Prop := ∀ b off v, hcell H b off = some v → hcell H' b off = some v
theorem Rle.refl (H : Heap) : Rle H H := fun _ _ _ h => h
theorem Rle.of_le {H H' : Heap} (h : H.le H') : Rle H H' := fun _ _ _ hc => hcell_mono h hc
theorem Rle.trans {A B C : Heap} (h : Rle A B) (h' : Rle B C) : Rle A C := fun b o v hc => h' b o v (h b o v hc)
theorem hcell_fz (H : Heap) (b off : Nat) : hcell (fz H) b off = hcell H b off := by
  unfold hcell fz
  cases h : H b with
  | none => rfl
  | some o => cases o <;> rfl
theorem rle_fz (H : Heap) : Rle H (fz H) := fun b off v h => by rw [hcell_fz]; exact h
theorem fz_at {H : Heap} {b : Nat} {o : Obj} (h : fz H b = some o) : H b ≠ none := fz_ne (by rw [h]; simp)
theorem ro_solo (hS : StG W0 H w L) (hs : W0.s = .solo) : H.le (hp w.toWorld) := fun b o hb => by
  have h6 := hS.ro b o hb
  rw [hs] at h6
  rcases union_cases h6 with h7 | ⟨_, h7⟩
  · exact h7
  · exact absurd rfl (fz_at (H := pool Gh.solo) h7)
theorem ex_opn {code : Code} {cty : TypeId} {dl dn wg lim : Nat} {ok : Nat → Value → Heap → Prop} {L1 L2 L3 : List HProp} (hs : W0.s = .solo) (h1 : Has L (pt dl (.chan 0 #[] false 0 0 false)) L1) (h2 : Has L1 (pt dn (.chan 0 #[] false 0 0 false)) L2) (h3 : Has L2 (pt wg (wgBlock cty 0 0)) L3)
    (hk : Bnd H → H dl = none → H dn = none → H wg = none → dl ≠ dn → Ex P n (setS W0 (.co ⟨⟨cty, wg, dl, dn, H, lim, ok⟩, 0, [], .run, false⟩)) Q F (fz H) L3 code k) : Ex P n W0 Q F H L code k := ⟨by
  intro a w hF hS Wr hsm b kk cs hb hc
  have hws : w.s = .solo := hS.sh.trans hs
  have hHm := ro_solo hS hs
  obtain ⟨hA, x1, e1, r1, d1, dH1, dH1r, l1, l1r⟩ := (hS.sub h1.to).parts
  obtain ⟨hB, x2, e2, r2, d2, l2, l2r⟩ := h2.to _ r1
  obtain ⟨hC, x3, e3, r3, d3, l3, l3r⟩ := h3.to _ r2
  have em1 : hp w.toWorld dl = some (.chan 0 #[] false 0 0 false) := l1 _ _ e1
  have em2 : hp w.toWorld dn = some (.chan 0 #[] false 0 0 false) := l1r _ _ (l2 _ _ e2)
  have em3 : hp w.toWorld wg = some (wgBlock cty 0 0) := l1r _ _ (l2r _ _ (l3 _ _ e3))
  have off1 : ∀ {y : Heap}, y.le x1 → y dl = none := fun {y} hy => by
    cases hh : y dl with
    | none => rfl
    | some o =>
      rcases d1 dl with h | h
      · rw [show hA dl = _ from e1] at h; cases h
      · rw [hy _ _ hh] at h; cases h
  have off2 : ∀ {y : Heap}, y.le x2 → y dn = none := fun {y} hy => by
    cases hh : y dn with
    | none => rfl
    | some o =>
      rcases d2 dn with h | h
      · rw [show hB dn = _ from e2] at h; cases h
      · rw [hy _ _ hh] at h; cases h
  have off3 : ∀ {y : Heap}, y.le x3 → y wg = none := fun {y} hy => by
    cases hh : y wg with
    | none => rfl
    | some o =>
      rcases d3 wg with h | h
      · rw [show hC wg = _ from e3] at h; cases h
      · rw [hy _ _ hh] at h; cases h
  have H1 : H dl = none := (dH1 dl).resolve_right (by rw [show hA dl = _ from e1]; simp)
  have H2 : H dn = none := (dH1r dn).resolve_right (by rw [l2 _ _ e2]; simp)
  have H3 : H wg = none := (dH1r wg).resolve_right (by rw [l2r _ _ (l3 _ _ e3)]; simp)
  have hne : dl ≠ dn := fun e => by
    have := off1 l2
    rw [e, show hB dn = _ from e2] at this
    cases this
  have hml : x3.le (hp w.toWorld) := l3r.trans (l2r.trans l1r)
  have dHx : Disj H x3 := (dH1r.symm.mono (l3r.trans l2r)).symm
  have hbn : Bnd H := (bnd_hp _).le hHm
  obtain ⟨w', q1, q2⟩ := stG_make hS hsm (m := x3) (.co ⟨⟨cty, wg, dl, dn, H, lim, ok⟩, 0, [], .run, false⟩) ((bnd_hp _).le hml) (H' := fz H) (L' := L3)
    (fun b o h => by
      have hx : x3 b = none := (dHx b).resolve_left (fz_at h)
      rw [union_r hx]; exact h)
    ⟨x3, r3, .refl _, fun b => by
      rcases dHx b with h | h
      · exact .inl (fz_none h)
      · exact .inr h⟩ dHx.symm
  refine MI.special (sb_mono P Wr) ?_
  unfold xw
  rw [hws]
  refine SP.opn (m' := x3) (c := ⟨⟨cty, wg, dl, dn, H, lim, ok⟩, 0, [], .run, false⟩) rfl rfl rfl rfl rfl hml hHm dHx.symm hne em1 em2 em3 (off1 (l3r.trans l2r)) (off2 l3r) (off3 (.refl _)) H1 H2 H3 ?_
  rw [q1.eq]
  exact (hk hbn H1 H2 H3 hne).run a w' hF q2 Wr q1.sm b kk cs hb hc⟩
theorem ex_back {code : Code} {c : Co} (hs : W0.s = .co c) (hst : c.st = .done) (hbn : Bnd c.cy.base)
    (hk : ∀ H', Rle H H' → c.cy.base.le H' → Ex P n (setS W0 .solo) Q F H' L code k) : Ex P n W0 Q F H L code k := ⟨by
  intro a w hF hS Wr hsm b kk cs hb hc
  have hws : w.s = .co c := hS.sh.trans hs
  have hdj := hS.dj
  rw [hs] at hdj
  replace hdj : Disj (hp w.toWorld) c.cy.base := hdj
  have hro := hS.ro
  rw [hs] at hro
  replace hro : H.le (union (hp w.toWorld) (fz c.cy.base)) := hro
  obtain ⟨y, y1, y2, y3⟩ := hS.own
  obtain ⟨Hm, hHm⟩ : ∃ Hm : Heap, Hm = fun b => match hp w.toWorld b with | some _ => H b | none => none := ⟨_, rfl⟩
  have a1 : ∀ b, hp w.toWorld b ≠ none → Hm b = H b := fun b h => by
    cases e : hp w.toWorld b with
    | none => exact absurd e h
    | some o => rw [hHm]; simp only [e]
  have a2 : ∀ b, hp w.toWorld b = none → Hm b = none := fun b h => by rw [hHm]; simp only [h]
  have hHle : Hm.le (hp w.toWorld) := fun b o h => by
    by_cases e : hp w.toWorld b = none
    · rw [a2 b e] at h; cases h
    · rw [a1 b e] at h
      rcases union_cases (hro b o h) with h' | ⟨h', _⟩
      · exact h'
      · exact absurd h' e
  have hdm : Disj Hm c.cy.base := hdj.mono hHle
  have hRle : Rle H (union Hm c.cy.base) := fun b off v h => by
    unfold hcell at h ⊢
    cases e : H b with
    | none => rw [e] at h; cases h
    | some o =>
      rw [e] at h
      rcases union_cases (hro b o e) with h' | ⟨h0, h'⟩
      · have : Hm b = some o := by rw [a1 b (by rw [h']; simp)]; exact e
        rw [union_l this]; exact h
      · obtain ⟨cc, T, f, e1, e2⟩ := fz_some h'
        rw [union_r (a2 b h0), e1]
        subst e2
        exact h
  have hyb : Disj y c.cy.base := hdj.mono y2
  have hHmy : Disj Hm y := fun b => by
    by_cases e : hp w.toWorld b = none
    · exact .inl (a2 b e)
    · rw [a1 b e]; exact y3 b
  have hyH : Disj (union Hm c.cy.base) y := disj_union hHmy hyb.symm
  obtain ⟨w', q1, q2⟩ := stG_make hS hsm (m := union (hp w.toWorld) c.cy.base) .solo ((bnd_hp _).union hbn) (H' := union Hm c.cy.base) (L' := L)
    (fun b o h => union_l (by
      rcases union_cases h with h' | ⟨h0, h'⟩
      · exact union_l (hHle _ _ h')
      · exact le_union_right hdj _ _ h'))
    ⟨y, y1, y2.trans (le_union_left _ _), hyH⟩ (fun _ => .inr rfl)
  refine MI.special (sb_mono P Wr) ?_
  unfold xw
  rw [hws]
  refine SP.back rfl hst ?_
  rw [q1.eq]
  exact (hk _ hRle (le_union_right hdm)).run a w' hF q2 Wr q1.sm b kk cs hb hc⟩
def KidOk (P : Program) (W0 : GW) (d : Deferred) (q : Cs) : Prop := ∀ Wr : BW, Wr.os = W0.os → Wr.tape = W0.tape → Wr.post = W0.post → MI P kd Wr.toWorld (SB P Wr) (born P d) ⟨Heap.empty, .snd q⟩
theorem opG_go {c : Co} {x : Operand} {at_ : Array TypeId} {f : FuncId} {cap : Array Value} (hs : W0.s = .co c) (hlen : c.wk.length + 2 < 2147483648) (hst : c.st = .pend) (hsh : c.shut = false)
    (hx : opv F x = some (.func (.func f) #[] cap)) (hkid : KidOk P W0 { target := .fn (.func f) cap, args := #[] } ⟨c.cy, none, false, 0⟩) (hk : K undef (setS W0 (.co { c with st := .run, wk := c.wk ++ [none] })) H L) :
    OpG P n W0 ⟨dst, .go ⟨.value x, #[], at_⟩, ty, pos, aft, g⟩ F H L K := by
  intro a w next Q hF hS hn Wr hsm ops j rest b kk cs ho hw hb hc
  have hws : w.s = .co c := hS.sh.trans hs
  have hdj := hS.dj
  rw [hs] at hdj
  have hro := hS.ro
  rw [hs] at hro
  have hrun : ∀ w1, (execOp a.eval ⟨dst, .go ⟨.value x, #[], at_⟩, ty, pos, aft, g⟩).run P w1 = .ok (.spawn { target := .fn (.func f) cap, args := #[] }) w1 := fun w1 => by
    simp [execOp, resolve, hF.opv hx, Deferred.ofValue]
  have hev : ∀ w1, (execOp a.eval ⟨dst, .go ⟨.value x, #[], at_⟩, ty, pos, aft, g⟩).events P w1 #[] = #[] := fun w1 => by
    simp [execOp, resolve, hF.opv hx, Deferred.ofValue]
  obtain ⟨w', q1, q2⟩ := stG_make hS hsm (m := hp w.toWorld) (.co { c with st := .run, wk := c.wk ++ [none] }) (bnd_hp _) hro hS.own hdj
  refine MI.special (sb_mono P Wr) ?_
  unfold xw
  rw [hws]
  refine SP.go hlen hst hsh rfl rfl (fun w1 he hl => by rw [stepG_spawn ho hw hb (hrun w1) rfl, listed_nil (hev w1)]) ?_ ?_
  · exact hkid Wr (hsm.os.trans hS.env.os) (hsm.tape.trans hS.env.tape) (hsm.post.trans hS.ps)
  · exact hc _ _ ⟨w', q1, hn _ _ _ _ _ hk q2⟩
end
end Go.X
namespace Go.X
open Go Go.Sx Go.Conc Go.ConcN
open Go.ConcR (KK wgBlock WgAt stA smA rd wr mk)
structure IsExt (P : Program) (f : FuncId) (fn : Func) : Prop where
  get : P.funcs[f]? = some fn
  name : (fn.name == "runtime.NumGoroutine") = false
  body : fn.body.isNone = true
  next : Extern.findNext fn = none
class TMark (P : Program) (f : FuncId) (μ : outParam Mark) : Prop where
  ex : ∃ fn, IsExt P f fn ∧ Extern.find fn = some (fun _ => do mark μ; pure Extern.Race.none_) ∧ ∀ g, μ ≠ .extern g
class TMarkAt (P : Program) (f : FuncId) (μ : outParam (Addr → Mark)) : Prop where
  ex : ∃ fn, IsExt P f fn ∧ Extern.find fn = some (Extern.Race.marked μ) ∧ ∀ a g, μ a ≠ .extern g
class TAtLoad (P : Program) (f : FuncId) : Prop where
  ex : ∃ fn, IsExt P f fn ∧ Extern.find fn = some (Extern.Atomic.loadT (.int .u64))
class TAtAdd (P : Program) (f : FuncId) : Prop where
  ex : ∃ fn, IsExt P f fn ∧ Extern.find fn = some (Extern.Atomic.update (Op.intArith .add) .u64 true)
class TAtCas (P : Program) (f : FuncId) : Prop where
  ex : ∃ fn, IsExt P f fn ∧ Extern.find fn = some (Extern.Atomic.casT (.int .u64))
class TSemA (P : Program) (f : FuncId) : Prop where
  ex : ∃ fn, IsExt P f fn ∧ Extern.find fn = some Extern.Sync.semacquire
class TConst (P : Program) (f : FuncId) (v : outParam Value) : Prop where
  ex : ∃ fn, IsExt P f fn ∧ Extern.find fn = some (fun _ => pure v)
section
variable {ty : TypeId} {wg : Nat} {w : World} {st sm : Int}
theorem wg_st (h : WgAt ty wg w st sm) : w.cell? (stA wg) = some (.int .u64 st) := by
  unfold WgAt at h; simp [World.cell?, stA, h, wgBlock]
theorem wg_sm (h : WgAt ty wg w st sm) : w.cell? (smA wg) = some (.int .u32 sm) := by
  unfold WgAt at h; simp [World.cell?, smA, h, wgBlock]
theorem wg_fzst (h : WgAt ty wg w st sm) : w.frozen? (stA wg) = false := by
  unfold WgAt at h; simp [World.frozen?, stA, h, wgBlock]
theorem wg_fzsm (h : WgAt ty wg w st sm) : w.frozen? (smA wg) = false := by
  unfold WgAt at h; simp [World.frozen?, smA, h, wgBlock]
end
section
variable {q : Bool} {P : Program} {n : NF} {W0 : GW} {Q : Exit → Act → GW → Prop} {F : Slots} {H : Heap} {L : List HProp} {ops : Array Oper} {rest : List Oper} {k : List Fr} {op : Op} {ty : TypeId} {pos : String} {aft : Array Edge} {d : Tmp} {dst : Option Tmp} {g : Option (Nat × Bool)} {K : Value → GW → Heap → List HProp → Prop}
theorem hat_turn {Wr : BW} {w : GW} {c c' : Co} {a' : Act} {next : Act → GW → Prop} (hS : StG W0 H w L) (hsm : Sm Wr w) (hs : W0.s = .co c) (hp' : pool (.co c') = pool (.co c)) (hn : ∀ w', StG (setS W0 (.co c')) H w' L → next a' w') :
    Hat Wr next a' ⟨hp w.toWorld, .co c'⟩ := by
  obtain ⟨w', q1, q2⟩ := stG_make hS hsm (m := hp w.toWorld) (.co c') (bnd_hp _) (by rw [hp', ← hs]; exact hS.ro) hS.own (by rw [hp', ← hs]; exact hS.dj)
  exact ⟨w', q1, hn w' q2⟩
theorem opG_mark {c : Co} {st : Stg} {f : FuncId} {ags : Array Operand} {at_ : Array TypeId} {μ : Mark} [ht : TMark P f μ] (hs : W0.s = .co c) (hm : Marks c μ st) (hk : K (.tuple #[]) (setS W0 (.co { c with st := st })) H L) :
    OpG P n W0 ⟨dst, .call ⟨.value (.func f), ags, at_⟩, ty, pos, aft, g⟩ F H L K := by
  intro a w next Q hF hS hn Wr hsm ops j rest b kk cs ho hw hb hc
  have hws : w.s = .co c := hS.sh.trans hs
  obtain ⟨fn, hx, hf, hne⟩ := ht.ex
  refine MI.special (sb_mono P Wr) ?_
  unfold xw
  rw [hws]
  refine SP.mark hm rfl (fun w1 he hl hwg => stepG_mark0 μ hne ho hw hb rfl hx.get hx.name hx.body hx.next hf) ?_
  exact hc _ _ (hat_turn hS hsm hs rfl fun w' h => hn _ _ _ _ _ hk h)
theorem opG_markAt {c : Co} {st : Stg} {f : FuncId} {x : Operand} {at_ : Array TypeId} {μ : Addr → Mark} {ad : Addr} [ht : TMarkAt P f μ] (hs : W0.s = .co c) (hx : opv F x = some (.pointer (some ad))) (hm : Marks c (μ ad) st) (hk : K (.tuple #[]) (setS W0 (.co { c with st := st })) H L) :
    OpG P n W0 ⟨dst, .call ⟨.value (.func f), #[x], at_⟩, ty, pos, aft, g⟩ F H L K := by
  intro a w next Q hF hS hn Wr hsm ops j rest b kk cs ho hw hb hc
  have hws : w.s = .co c := hS.sh.trans hs
  obtain ⟨fn, he, hf, hne⟩ := ht.ex
  refine MI.special (sb_mono P Wr) ?_
  unfold xw
  rw [hws]
  refine SP.mark hm rfl (fun w1 _ hl hwg => stepG_markAt μ hne ho hw hb rfl he.get he.name he.body he.next hf (by simp [hF.opv hx])) ?_
  exact hc _ _ (hat_turn hS hsm hs rfl fun w' h => hn _ _ _ _ _ hk h)
theorem opG_load {c : Co} {m : Nat} {f : FuncId} {x : Operand} {at_ : Array TypeId} [ht : TAtLoad P f] (hs : W0.s = .co c) (hst : c.st = .w0 m) (hx : opv F x = some (.pointer (some (stA c.cy.wg))))
    (h0 : K (.int .u64 0) (setS W0 (.co { c with st := .fin })) H L) (h1 : ∀ v : Nat, v ≤ m → v ≠ 0 → K (.int .u64 (v * KK)) (setS W0 (.co { c with st := .w1 v })) H L) :
    OpG P n W0 ⟨dst, .call ⟨.value (.func f), #[x], at_⟩, ty, pos, aft, g⟩ F H L K := by
  intro a w next Q hF hS hn Wr hsm ops j rest b kk cs ho hw hb hc
  have hws : w.s = .co c := hS.sh.trans hs
  obtain ⟨fn, he, hf⟩ := ht.ex
  refine MI.special (sb_mono P Wr) ?_
  unfold xw
  rw [hws]
  refine SP.load hst rfl fun v w1 hv _ hl hwg => ⟨_, stepG_load_atomic ho hw hb rfl he.get he.name he.body he.next .u64 hf (hF.opv hx) (wg_st hwg), fun e => ?_, fun e => ?_⟩
  · subst e
    refine hc _ _ (hat_turn hS hsm hs rfl fun w' h => ?_)
    have := hn _ _ _ _ _ h0 h
    simpa using this
  · exact hc _ _ (hat_turn hS hsm hs rfl fun w' h => hn _ _ _ _ _ (h1 v hv e) h)
theorem opG_load0 {c : Co} {f : FuncId} {x : Operand} {at_ : Array TypeId} [ht : TAtLoad P f] (hs : W0.s = .co c) (hst : c.st = .up) (hx : opv F x = some (.pointer (some (stA c.cy.wg))))
    (h0 : K (.int .u64 0) (setS W0 (.co { c with st := .fin })) H L) :
    OpG P n W0 ⟨dst, .call ⟨.value (.func f), #[x], at_⟩, ty, pos, aft, g⟩ F H L K := by
  intro a w next Q hF hS hn Wr hsm ops j rest b kk cs ho hw hb hc
  have hws : w.s = .co c := hS.sh.trans hs
  obtain ⟨fn, he, hf⟩ := ht.ex
  refine MI.special (sb_mono P Wr) ?_
  unfold xw
  rw [hws]
  refine SP.load0 hst rfl fun w1 _ hl hwg => ⟨_, stepG_load_atomic ho hw hb rfl he.get he.name he.body he.next .u64 hf (hF.opv hx) (wg_st hwg), ?_⟩
  exact hc _ _ (hat_turn hS hsm hs rfl fun w' h => hn _ _ _ _ _ h0 h)
theorem wrap_count {v : Nat} (hv : v < 2147483648) : IntKind.u64.wrap ((v : Int) * KK + KK) = ((v + 1 : Nat) : Int) * KK := by
  rw [IntKind.wrap_u64]; simp only [KK]; push_cast; omega
theorem opG_add {c : Co} {f : FuncId} {x y : Operand} {at_ : Array TypeId} [ht : TAtAdd P f] (hs : W0.s = .co c) (hst : c.st = .off) (hlen : c.wk.length < 2147483648) (hx : opv F x = some (.pointer (some (stA c.cy.wg)))) (hy : opv F y = some (.int .u64 4294967296))
    (h1 : ∀ v : Nat, v ≤ c.wk.length → K (.int .u64 ((v + 1 : Nat) * KK)) (setS W0 (.co { c with st := .adm })) H L) :
    OpG P n W0 ⟨dst, .call ⟨.value (.func f), #[x, y], at_⟩, ty, pos, aft, g⟩ F H L K := by
  intro a w next Q hF hS hn Wr hsm ops j rest b kk cs ho hw hb hc
  have hws : w.s = .co c := hS.sh.trans hs
  obtain ⟨fn, he, hf⟩ := ht.ex
  refine MI.special (sb_mono P Wr) ?_
  unfold xw
  rw [hws]
  refine SP.add hst rfl fun v w1 hv _ hl hwg => ?_
  have hstep := stepG_add_atomic (P := P) (main := true) (kk := kk) (cs := cs) (rest := rest) ho hw hb rfl he.get he.name he.body he.next .u64 hf (hF.opv hx) (hF.opv hy) (wg_st hwg) (wg_fzst hwg)
  rw [show (4294967296 : Int) = KK from rfl, wrap_count (by omega)] at hstep
  exact ⟨_, hstep, hc _ _ (hat_turn hS hsm hs rfl fun w' h => hn _ _ _ _ _ (h1 v hv) h)⟩
theorem opG_cas {c : Co} {u : Nat} {f : FuncId} {x y z : Operand} {at_ : Array TypeId} {e1 e2 : Int} [ht : TAtCas P f] (hs : W0.s = .co c) (hst : c.st = .w1 u) (hx : opv F x = some (.pointer (some (stA c.cy.wg)))) (hy : opv F y = some (.int .u64 e1)) (hz : opv F z = some (.int .u64 e2))
    (q1 : e1 = u * KK) (q2 : e2 = u * KK + 1)
    (h1 : K (.bool true) (setS W0 (.co { c with st := .reg })) H L) (h0 : ∀ v : Nat, v < u → K (.bool false) (setS W0 (.co { c with st := .w0 v })) H L) :
    OpG P n W0 ⟨dst, .call ⟨.value (.func f), #[x, y, z], at_⟩, ty, pos, aft, g⟩ F H L K := by
  intro a w next Q hF hS hn Wr hsm ops j rest b kk cs ho hw hb hc
  have hws : w.s = .co c := hS.sh.trans hs
  obtain ⟨fn, he, hf⟩ := ht.ex
  subst q1 q2
  refine MI.special (sb_mono P Wr) ?_
  unfold xw
  rw [hws]
  refine SP.cas hst rfl fun v w1 hv _ hl hwg => ⟨fun e => ?_, fun e => ?_⟩
  · subst e
    exact ⟨_, stepG_cas_hit ho hw hb rfl he.get he.name he.body he.next .u64 hf (hF.opv hx) (hF.opv hy) (hF.opv hz) (wg_st hwg) (wg_fzst hwg), hc _ _ (hat_turn hS hsm hs rfl fun w' h => hn _ _ _ _ _ h1 h)⟩
  · exact ⟨_, stepG_cas_miss ho hw hb rfl he.get he.name he.body he.next .u64 hf (hF.opv hx) (hF.opv hy) (hF.opv hz) (wg_st hwg) (wg_fzst hwg) (by simp only [KK]; omega), hc _ _ (hat_turn hS hsm hs rfl fun w' h => hn _ _ _ _ _ (h0 v (by omega)) h)⟩
theorem opG_sem {c : Co} {f : FuncId} {x y : Operand} {at_ : Array TypeId} [ht : TSemA P f] (hs : W0.s = .co c) (hst : c.st = .reg) (hx : opv F x = some (.pointer (some (smA c.cy.wg))))
    (h1 : K (.tuple #[]) (setS W0 (.co { c with st := .up })) H L) :
    OpG P n W0 ⟨dst, .call ⟨.value (.func f), #[x, y], at_⟩, ty, pos, aft, g⟩ F H L K := by
  intro a w next Q hF hS hn Wr hsm ops j rest b kk cs ho hw hb hc
  have hws : w.s = .co c := hS.sh.trans hs
  obtain ⟨fn, he, hf⟩ := ht.ex
  have ha : ((#[x, y] : Array Operand).map a.eval)[0]? = some (.pointer (some (smA c.cy.wg))) := by simp [hF.opv hx]
  refine MI.special (sb_mono P Wr) ?_
  unfold xw
  rw [hws]
  refine SP.sem hst rfl rfl (fun w1 st _ hl hwg => stepG_semacquire_wait ho hw rfl he.get he.name he.body he.next hf ha (wg_sm hwg)) fun w1 _ hl hwg => ⟨_, ?_, hc _ _ (hat_turn hS hsm hs rfl fun w' h => hn _ _ _ _ _ h1 h)⟩
  exact stepG_semacquire ho hw hb rfl he.get he.name he.body he.next hf ha (wg_sm hwg) (by decide) (wg_fzsm hwg)
theorem stepG_ext_pure {main : Bool} {b : Frame} {a : Act} {kk : List Item} {cs : List Frame} {w : World} {opsA : Array Oper} {i : Nat} {restN : List Nat} {o : Oper} {f : FuncId} {ags : Array Operand} {ats : Array TypeId} {fn : Func} {v : Value}
    (ho : opsA[i]? = some o) (hw : Region.wanted o (yielded opsA a.tmps) = true) (hk : b.kind ≠ .early) (hop : o.op = .call { callee := .value (.func f), args := ags, argTypes := ats }) (hx : IsExt P f fn) (he : Extern.find fn = some (fun _ => pure v)) :
    stepG P main (G (b.at a (.inRegion opsA (i :: restN) :: kk)) cs) w = .go (G (b.at (a.put o.dst v) (.inRegion opsA restN :: kk)) cs) w #[] :=
  stepG_entry ho hw hk hop hx.get hx.name hx.body hx.next he (by simp) (by simp) (by intro x h; simp at h)
theorem op_const {f : FuncId} {ags : Array Operand} {at_ : Array TypeId} {v : Value} [ht : TConst P f v] (hk : K v W0 H L) :
    OpG P n W0 ⟨dst, .call ⟨.value (.func f), ags, at_⟩, ty, pos, aft, g⟩ F H L K := by
  intro a w next Q hF hS hn Wr hsm ops j rest b kk cs ho hw hb hc
  obtain ⟨fn, hx, he⟩ := ht.ex
  refine .own ⟨rfl, fun w1 _ hl _ => ⟨_, w1, #[], _, stepG_ext_pure ho hw hb rfl hx he, .refl _ _ _, hl, fun _ hb => .inl hb, ?_⟩⟩
  exact hc _ _ ⟨w, rep_xw hsm, hn _ _ _ _ _ hk hS⟩
end
end Go.X
