/- The law MergeViews, walked. -/
import Derived.Test.YtjkiioicjmaeoaaLCG
import Derived.Test.YtjkiioicjmaeoaaLE8
import Derived.Test.YtjkiioicjmaeoaaLMN
import Derived.Test.YtjkiioicjmaeoaaLSx6
import Derived.Test.YtjkiioicjmaeoaaLYJ
set_option linter.unusedVariables false
set_option linter.unusedSimpArgs false
namespace Go.X
open Go Go.Sx Go.Conc Go.ConcN
section
variable {P : Program} {Post : Value → World → Prop} {W0 : World}
theorem stepG_done {main : Bool} {b : Frame} {a : Act} {w : World} {fn : Func} {todo : List Item} {v : Value} (hm : main = true) (hn : b.kind = .normal) (hd : a.defers = []) (hf : P.funcs[b.fn]? = some fn) (hr : (results fn a.tmps).run P w = .ok v w) (hi : P.inits.idxOf? b.fn = none) :
    stepG P main (G { b.at a todo with mode := .returning } []) w = .ended (.done v) w (seen P b.fn ((results fn a.tmps).events P w #[])) := by
  subst hm
  simp [G, stepG, unwind, doReturn, Frame.at, hn, hd, hf, hr, hi, GStep.after]
theorem mi_root {f : FuncId} {fn : Func} {c : Code} {args : Array Value} {x : XW Gh} (hf : P.funcs[f]? = some fn) (hb : fn.body = some c) (hi : P.inits.idxOf? f = none)
    (h : c.wpX P kd W0 (SP P Post W0) (fun e a x => (e = .normal ∨ e = .ret) ∧ a.defers = [] ∧ x.s = .solo ∧ ∀ w, Env W0 w → x.m.le (rp w) → ∃ v, (results fn a.tmps).run P w = .ok v w ∧ (∀ e ∈ (results fn a.tmps).events P w #[], Mine x.m w.heap.size e ∧ EvLow w.heap.size e) ∧ Post v w)
      { tmps := args ++ Array.replicate (fn.ntmps - args.size) undef, defers := [] } x) : MIp P Post W0 (G (Frame.enter P f args .normal) []) x := by
  rw [enter_at args hf hb]
  have leave : ∀ (a : Act) (x : XW Gh) (todo : List Item), a.defers = [] → x.s = .solo → (∀ w, Env W0 w → x.m.le (rp w) → ∃ v, (results fn a.tmps).run P w = .ok v w ∧ (∀ e ∈ (results fn a.tmps).events P w #[], Mine x.m w.heap.size e ∧ EvLow w.heap.size e) ∧ Post v w) →
      MIp P Post W0 (G { (base f).at a todo with mode := .returning } []) x := by
    intro a x todo hd hs hx
    obtain ⟨m, s⟩ := x
    replace hs : s = .solo := hs
    subst hs
    refine MI.special (sp_mono P Post W0) (.fin rfl fun w he hl => ?_)
    obtain ⟨v, h1, h2, h3⟩ := hx w he hl
    exact ⟨v, _, stepG_done (b := base f) rfl rfl hd hf h1 hi, fun e he => h2 e (mem_seen he), h3⟩
  refine h (base f) [] [] (by simp [base]) fun e a' x' q => ?_
  obtain ⟨he, hd, hs, hx⟩ := q
  rcases he with rfl | rfl
  · exact .ctl rfl (fun _ _ => stepG_end) (leave a' x' [] hd hs hx)
  · exact fun todo => leave a' x' todo hd hs hx
def startCf (g : Goroutine) (W : World) : Cf :=
  ⟨#[g], W, none, #[], 0, .run, fun _ => (g, ⟨Heap.empty, .solo⟩), fun _ => .Q 0, ⟨0, fun i => if i = 0 then rp W else Heap.empty, Heap.empty, Heap.empty, 0, fun _ => False, fun _ => False, fun _ => False, fun _ _ => False, fun _ _ => False⟩⟩
theorem start_inv {g : Goroutine} {W : World} (hmi : MIp P Post W0 g ⟨rp W, .solo⟩) (he : Env W0 W) : Inv P Post W0 (startCf g W) g ⟨rp W, .solo⟩ := by
  have hr := mi_running hmi
  refine ⟨⟨rfl, he, ⟨g, rfl, .run (.refl hr)⟩, fun i pk h1 h2 => ?_, fun i q h1 h2 => ?_, fun i h1 h2 => ?_, rfl, fun i h1 h2 => ?_, rfl, rfl, fun i h1 h2 => ?_, fun i h1 h2 => ?_, fun i => ⟨fun h => h.elim, fun ⟨a, b, c⟩ => c⟩, fun i => ⟨fun h => h.elim, fun ⟨a, b, c⟩ => c trivial⟩, ⟨fun a b x hne hx => ?_, fun a x hx => ?_, fun x hx => absurd rfl hx, fun x hx => absurd rfl hx, fun a h => h, fun x h => h.elim, fun a x h => h⟩, fun i => ?_, fun b o h => (by cases h), fun b o h => (by cases h), ?_⟩, ⟨fun i a b => trivial, rfl, rfl, fun i r h => h⟩⟩
  · exact absurd (Nat.le_trans h1 h2) (show ¬ 1 ≤ 0 by decide)
  · exact absurd (Nat.le_trans h1 h2) (show ¬ 1 ≤ 0 by decide)
  · exact absurd (Nat.le_trans h1 h2) (show ¬ 1 ≤ 0 by decide)
  · exact absurd (Nat.le_trans h1 h2) (show ¬ 1 ≤ 0 by decide)
  · exact absurd (Nat.le_trans h1 h2) (show ¬ 1 ≤ 0 by decide)
  · show (if i = 0 then rp W else Heap.empty) = Heap.empty
    rw [if_neg (by omega)]
  · show (if b = 0 then rp W else Heap.empty) x = none
    replace hx : (if a = 0 then rp W else Heap.empty) x ≠ none := hx
    by_cases e : a = 0
    · rw [if_neg (by omega)]; rfl
    · rw [if_neg e] at hx; exact absurd rfl hx
  · replace hx : (if a = 0 then rp W else Heap.empty) x ≠ none := hx
    by_cases e : a = 0
    · rw [if_pos e] at hx
      refine ⟨rfl, rfl, id, ?_⟩
      cases h : rp W x with
      | none => exact absurd h hx
      | some o => exact (Array.getElem?_eq_some_iff.1 h).1
    · rw [if_neg e] at hx; exact absurd rfl hx
  · show (if i = 0 then rp W else Heap.empty).le (rp W)
    split
    · exact .refl _
    · intro b o h; cases h
  · have no : ∀ {i : Nat} {a : Touch}, touchAt #[] i = some a → False := fun {i a} h => by simp [touchAt, Trace.act?] at h
    refine ⟨fun said ⟨i, j, _, ⟨a, b, ha, _⟩, _⟩ => no ha, fun op h => by simp [startCf] at h, fun op h => by simp [startCf] at h, fun g i a b ha => (no ha).elim, fun g i a b _ ha => (no ha).elim, fun i a b ha => (no ha).elim, fun g i a b _ ha => (no ha).elim, fun i a b ha => (no ha).elim, fun i a b ha => (no ha).elim, fun i a ha => (no ha).elim, fun i g h => by simp [startCf, Trace.g?] at h⟩
theorem good_start {g : Goroutine} {W : World} (hmi : MIp P Post W0 g ⟨rp W, .solo⟩) (he : Env W0 W) :
    ∃ n last o w' t', runNT P (n + 1) (solo g W) #[] = (.ended o w', t') ∧ runN P n (solo g W) = .next last ∧ step P last = .ended o w' ∧ Conc.Good P Post last o w' t' :=
  company_ends hmi (startCf g W) (start_inv hmi he)
end
end Go.X
namespace Go.X
open Go Go.Sx Go.Conc Go.ConcN
theorem frOk_enter {n : Nat} {fn : Func} {vs : List Value} {F : Slots} (hn : fn.ntmps = n) (hF : Params 0 vs F) (hl : Nat.ble vs.length n = true) :
    FrOk ⟨n, []⟩ { tmps := vs.toArray ++ Array.replicate (fn.ntmps - vs.toArray.size) undef, defers := [] } F := by
  have hl' : vs.length ≤ n := by simpa using hl
  refine ⟨by simp [hn]; omega, rfl, ?_⟩
  have key : ∀ i vs F, Params i vs F → ∀ t v, fget F t = some v → i ≤ t ∧ vs[t - i]? = some v := by
    intro i vs F hp
    induction hp with
    | nil => intro t v h; simp [fget] at h
    | @cons i v vs F _ ih =>
      intro t u h
      rw [fget_cons] at h
      by_cases e : i = t
      · subst e; simp at h; subst h; simp
      · simp only [e, if_false] at h
        have h1 := ih t u h
        refine ⟨by omega, ?_⟩
        have h2 : t - i = (t - (i + 1)) + 1 := by omega
        rw [h2]; simpa using h1.2
  intro t v ht
  have h1 := key 0 vs F hF t v ht
  have h2 : vs[t]? = some v := by simpa using h1.2
  have h3 : t < vs.length := (List.getElem?_eq_some_iff.1 h2).1
  rw [Array.getElem?_append]
  have h4 : vs[t] = v := by rw [List.getElem?_eq_getElem h3] at h2; exact Option.some.inj h2
  simp [h3, h4]
def CtR (P : Program) (f : FuncId) (vs : Array Value) (W0 : GW) (H : Heap) (A : List HProp) (Post : Value → Heap → List HProp → Prop) : Prop :=
  ∀ (w : GW) R, StG W0 H w (A ++ R) → w.s = .solo → P.inits.idxOf? f = none → ∀ Wr : BW, Sm Wr w → (∀ r H' B, H.le H' → Post r H' B → ∀ w1, Env Wr.toWorld w1 → H'.le (rp w1) → Wr.post r w1) →
    MIp P Wr.post Wr.toWorld (G (Frame.enter P f vs .normal) []) (xw w)
theorem CtR.go {P : Program} {n : Nat} {W0 : GW} {H : Heap} {f : FuncId} {fn : Func} {c : Code} {vs : List Value} {A : List HProp} {Post : Value → Heap → List HProp → Prop} [hb : TBody P f fn c n]
    (h : ∀ R, Ex P ⟨n, []⟩ W0 (bodyPostV P fn (RetOk W0 H Post R)) (parF 0 vs) H (A ++ R) c []) (hl : Nat.ble vs.length n = true := by rfl) : CtR P f vs.toArray W0 H A Post := by
  intro w R hS hs hi Wr hsm hp
  refine mi_root hb.get hb.body hi (wpX_mono ((h R).run _ w (frOk_enter hb.ntmps (parF_params 0 vs) hl) hS Wr hsm) ?_)
  rintro e a x ⟨w', hr, he, hd, v, hrd, r, H', B, er, hle, hpo, hS'⟩
  cases er
  refine ⟨he, hd, ?_, fun w1 hen hl1 => ?_⟩
  · rw [← hr.s, hS'.sh, ← hS.sh]; exact hs
  · have e2 := hr.eq
    subst e2
    obtain ⟨k1, k2⟩ := hrd Wr hr.sm w1 hen hl1
    exact ⟨v, k1, k2, hp v H' B hle hpo w1 hen (hS'.ro.trans hl1)⟩
def startG (W : World) (post : Value → World → Prop) : GW := { W with output := #[], post := post, s := .solo }
theorem hp_start (W : World) (post : Value → World → Prop) : hp (startG W post).toWorld = rp W := by
  funext b
  simp [hp, hid, startG, rp]
theorem good_law {P : Program} {f : FuncId} {vs : Array Value} {Post : Value → Heap → List HProp → Prop} {W : World} {post : Value → World → Prop} (h : CtR P f vs (startG W post) (rp W) [] Post) (hi : P.inits.idxOf? f = none)
    (hp : ∀ r H' B, (rp W).le H' → Post r H' B → ∀ w1, Env W w1 → H'.le (rp w1) → post r w1) :
    ∃ n last o w' t', runNT P (n + 1) (Conc.solo (G (Frame.enter P f vs .normal) []) W) #[] = (.ended o w', t') ∧ runN P n (Conc.solo (G (Frame.enter P f vs .normal) []) W) = .next last ∧ step P last = .ended o w' ∧ Conc.Good P post last o w' t' := by
  have hst : StG (startG W post) (rp W) (startG W post) ([] ++ []) := by
    refine ⟨⟨⟨rfl, rfl, rfl, fun p hp => by simp [startG] at hp⟩, ?_, Heap.empty, trivial, fun b o h => (by cases h), fun b => .inr rfl⟩, rfl, rfl, fun b => .inr rfl⟩
    rw [hp_start]; exact .refl _
  have := h (startG W post) [] hst rfl hi ⟨W, post⟩ ⟨rfl, rfl, rfl⟩ (fun r H' B h1 h2 w1 h3 h4 => hp r H' B h1 h2 w1 h3 h4)
  unfold xw at this
  rw [hp_start] at this
  exact good_start (W0 := W) (Post := post) this ⟨rfl, rfl, rfl⟩
end Go.X
namespace Go.Proofs.Ytjkiioicjmaeoaa
open Go Go.Sx Go.X Go.Proofs
end Go.Proofs.Ytjkiioicjmaeoaa
namespace Go.Proofs.Ytjkiioicjmaeoaa
open Go Go.Sx Go.X Go.Proofs
def CmpR (fl : Int) (bt : Bool) (l : List Entry) (H : Heap) (r : Value) : Prop := ∃ b c code res, r = .tuple #[.slice b res.length c, .int .i64 code] ∧ LB H (.slice b res.length c) res ∧ ((¬ Ordd l ∧ res = [] ∧ code = 60) ∨ (Ordd l ∧ code = 0 ∧ res = comp fl bt l))
theorem ops_compact {n : NF} {W0 : GW} {Q : Exit → Act → GW → Prop} {F : Slots} {H : Heap} {L : List HProp} {ops : Array Oper} {rest : List Oper} {k : List Fr} {ty : TypeId} {pos : String} {aft : Array Edge} {d : Tmp} {l : List Operand} {ts : Array TypeId} {v : Value} {xs : List Entry} {fl : Int} {bt : Bool} (hv : LB H v xs) (ha : opvs F l = some [v, .int .i64 fl, .bool bt])
    (hk : ∀ r H', H.le H' → CmpR fl bt xs H' r → Ops Try.prog n W0 Q ((d, r) :: F) H' L false ops rest k) (hd : Nat.blt d n.n = true := by rfl) :
    Ops Try.prog n W0 Q F H L false ops (⟨some d, .call ⟨.value (.func 18), l.toArray, ts⟩, ty, pos, aft, none⟩ :: rest) k := by
  refine ops_call rfl ha (compact_spec hv) (fun r H' B hl hh => ?_) .nil hd
  rcases hh with ⟨h1, rfl, rfl⟩ | ⟨h1, s, rfl, rfl⟩
  · exact hk _ _ hl ⟨none, 0, 60, [], rfl, ⟨SlR.nil _ _ _ _ _ (by decide), by simp⟩, .inl ⟨h1, rfl, rfl⟩⟩
  · refine ops_freeze s fun H2 hl2 q => ?_
    obtain ⟨b, c, rfl, _, _⟩ := q.1.shape
    exact hk _ _ (hl.trans hl2) ⟨b, c, 0, _, rfl, q, .inr ⟨h1, rfl, rfl⟩⟩
set_option maxHeartbeats 4000000 in
theorem views_law {W0 : GW} {H : Heap} {v : Value} {l0 : List Entry} {s : Int} {bt : Bool} (hs : W0.s = .solo) (hv : LB H v l0) : CtR Try.prog 5 #[v, .int .i64 s, .bool bt] W0 H [] (fun r H' B => r = .bool true ∧ B = []) := by
  refine CtR.go (vs := [_, _, _]) fun R => ?_
  obtain ⟨b0, c0, rfl, hc0, hd0⟩ := hv.1.shape
  refine walk ?_
  refine ops_call rfl rfl (awake_spec hs) fun r H1 B hl1 ⟨er, eB⟩ => ?_
  subst er eB
  refine walk ?_
  refine ops_call rfl rfl (one_spec (hv.mono hl1)) fun r H2 B hl2 ⟨q2, eB⟩ => ?_
  subst eB
  have htt : (l0.take 60).take 60 = l0.take 60 := by rw [List.take_take]; rfl
  generalize l0.take 60 = l at *
  obtain ⟨b2, c2, rfl, hc2, hd2⟩ := q2.1.shape
  refine walk ?_
  refine ops_call rfl rfl (one_spec q2) fun r H3 B hl3 ⟨q3, eB⟩ => ?_
  subst eB
  rw [htt] at q3
  obtain ⟨b3, c3, rfl, hc3, hd3⟩ := q3.1.shape
  refine walk ?_
  refine ops_call rfl rfl (visible_spec q3) fun r H4 B hl4 ⟨⟨s4, code4, res4, er, p4, hh4⟩, eB⟩ => ?_
  subst er eB
  obtain ⟨b4, c4, rfl, hc4, hd4⟩ := p4.1.shape
  have q4 := q2.mono (hl3.trans hl4)
  refine walk ?_
  refine ops_call rfl rfl (one_spec q4) fun r H5 B hl5 ⟨q5, eB⟩ => ?_
  subst eB
  rw [htt] at q5
  obtain ⟨b5, c5, rfl, hc5, hd5⟩ := q5.1.shape
  refine walk ?_
  refine ops_compact q5 rfl fun r H6 hl6 ⟨b6, c6, code6, res6, er, p6, hh6⟩ => ?_
  subst er
  have q6 := q4.mono (hl5.trans hl6)
  have p4' := p4.mono (hl5.trans hl6)
  obtain ⟨_, _, e6, hc6, hd6⟩ := p6.1.shape
  cases e6
  refine walk ?_
  refine ops_call rfl rfl (rOrdered_spec q6.1 (LB.len q6)) fun r H7 B hl7 ⟨⟨gb, er, hgb⟩, eB, eH⟩ => ?_
  subst er eB eH
  cases gb with
  | false =>
    have hno : ¬ Ordd l := fun h => by cases hgb.2 h
    obtain ⟨-, rfl, rfl⟩ := hh4.resolve_right fun h => hno h.1
    obtain ⟨-, rfl, rfl⟩ := hh6.resolve_right fun h => hno h.1
    refine walk ?_
    rw [show decide ((([] : List Pair).length : Int) = 0) = true from rfl]
    refine walk ?_
    rw [show decide ((([] : List Entry).length : Int) = 0) = true from rfl]
    refine walk ?_
    refine fin0 ?_
    exact ⟨rfl, rfl⟩
  | true =>
    have hyes := hgb.1 rfl
    obtain ⟨-, rfl, rfl⟩ := hh4.resolve_left fun h => h.1 hyes
    obtain ⟨-, rfl, rfl⟩ := hh6.resolve_left fun h => h.1 hyes
    refine walk ?_
    refine ops_call rfl rfl (rVisible_spec q6 (ordd_pw hyes)) fun r H8 B hl8 ⟨q8, eB⟩ => ?_
    subst eB
    obtain ⟨b8, c8, rfl, hc8, hd8⟩ := q8.1.shape
    refine walk ?_
    refine ops_call rfl rfl (samePairs_spec (p4'.mono hl8) q8) fun r H9 B hl9 ⟨er, eB, eH⟩ => ?_
    subst er eB eH
    rw [decide_eq_true rfl]
    refine walk ?_
    refine ops_call rfl rfl (rCompact_spec (q6.mono hl8) (ordd_pw hyes)) fun r H10 B hl10 ⟨q10, eB⟩ => ?_
    subst eB
    obtain ⟨b10, c10, rfl, hc10, hd10⟩ := q10.1.shape
    refine walk ?_
    refine ops_call rfl rfl (same_spec ((p6.mono hl8).mono hl10) q10) fun r H11 B hl11 ⟨er, eB, eH⟩ => ?_
    subst er eB eH
    rw [decide_eq_true rfl]
    refine walk ?_
    refine fin0 ?_
    exact ⟨rfl, rfl⟩
end Go.Proofs.Ytjkiioicjmaeoaa
