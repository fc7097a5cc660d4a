/- The law, walked. -/
import Derived.Test.YtafhinjggdknjaaDoorPE8
import Derived.Test.YtafhinjggdknjaaDoorPNB
import Derived.Test.YtafhinjggdknjaaDoorPNC
import Derived.Test.YtafhinjggdknjaaDoorPSx7
import Derived.Test.YtafhinjggdknjaaDoorPYJ
set_option linter.unusedVariables false
set_option linter.unusedSimpArgs false
namespace Go.X
open Go Go.Sx Go.Conc Go.ConcN
section
variable {P : Program} {Post : Value → World → Prop} {W0 : World}
theorem stepG_done {main : Bool} {b : Frame} {a : Act} {w : World} {fn : Func} {todo : List Item} {v : Value} (hm : main = true) (hn : b.kind = .normal) (hd : a.defers = []) (hf : P.funcs[b.fn]? = some fn) (hr : (results fn a.tmps).run P w = .ok v w) (hi : P.inits.idxOf? b.fn = none) :
    stepG P main (G { b.at a todo with mode := .returning } []) w = .ended (.done v) w (seen P b.fn ((results fn a.tmps).events P w #[])) := by
  subst hm
  simp [G, stepG, unwind, doReturn, Frame.at, hn, hd, hf, hr, hi, GStep.after]
theorem mi_root {f : FuncId} {fn : Func} {c : Code} {args : Array Value} {x : XW Gh} (hf : P.funcs[f]? = some fn) (hb : fn.body = some c) (hi : P.inits.idxOf? f = none)
    (h : c.wpX P kd W0 (SP P Post W0) (fun e a x => (e = .normal ∨ e = .ret) ∧ a.defers = [] ∧ x.s = .solo ∧ ∀ w, Env W0 w → x.m.le (rp w) → ∃ v, (results fn a.tmps).run P w = .ok v w ∧ (∀ e ∈ (results fn a.tmps).events P w #[], Mine x.m w.heap.size e ∧ EvLow w.heap.size e) ∧ Post v w)
      { tmps := args ++ Array.replicate (fn.ntmps - args.size) undef, defers := [] } x) : MIp P Post W0 (G (Frame.enter P f args .normal) []) x := by
  rw [enter_at args hf hb]
  have leave : ∀ (a : Act) (x : XW Gh) (todo : List Item), a.defers = [] → x.s = .solo → (∀ w, Env W0 w → x.m.le (rp w) → ∃ v, (results fn a.tmps).run P w = .ok v w ∧ (∀ e ∈ (results fn a.tmps).events P w #[], Mine x.m w.heap.size e ∧ EvLow w.heap.size e) ∧ Post v w) →
      MIp P Post W0 (G { (base f).at a todo with mode := .returning } []) x := by
    intro a x todo hd hs hx
    obtain ⟨m, s⟩ := x
    replace hs : s = .solo := hs
    subst hs
    refine MI.special (sp_mono P Post W0) (.fin rfl fun w he hl => ?_)
    obtain ⟨v, h1, h2, h3⟩ := hx w he hl
    exact ⟨v, _, stepG_done (b := base f) rfl rfl hd hf h1 hi, fun e he => h2 e (mem_seen he), h3⟩
  refine h (base f) [] [] (by simp [base]) fun e a' x' q => ?_
  obtain ⟨he, hd, hs, hx⟩ := q
  rcases he with rfl | rfl
  · exact .ctl rfl (fun _ _ => stepG_end) (leave a' x' [] hd hs hx)
  · exact fun todo => leave a' x' todo hd hs hx
def startCf (g : Goroutine) (W : World) : Cf :=
  ⟨#[g], W, none, #[], 0, .run, fun _ => (g, ⟨Heap.empty, .solo⟩), fun _ => .Q 0, ⟨0, fun i => if i = 0 then rp W else Heap.empty, Heap.empty, Heap.empty, 0, fun _ => False, fun _ => False, fun _ => False, fun _ _ => False, fun _ _ => False⟩⟩
theorem start_inv {g : Goroutine} {W : World} (hmi : MIp P Post W0 g ⟨rp W, .solo⟩) (he : Env W0 W) : Inv P Post W0 (startCf g W) g ⟨rp W, .solo⟩ := by
  have hr := mi_running hmi
  refine ⟨⟨rfl, he, ⟨g, rfl, .run (.refl hr)⟩, fun i pk h1 h2 => ?_, fun i q h1 h2 => ?_, fun i h1 h2 => ?_, rfl, fun i h1 h2 => ?_, rfl, rfl, fun i h1 h2 => ?_, fun i h1 h2 => ?_, fun i => ⟨fun h => h.elim, fun ⟨a, b, c⟩ => c⟩, fun i => ⟨fun h => h.elim, fun ⟨a, b, c⟩ => c trivial⟩, ⟨fun a b x hne hx => ?_, fun a x hx => ?_, fun x hx => absurd rfl hx, fun x hx => absurd rfl hx, fun a h => h, fun x h => h.elim, fun a x h => h⟩, fun i => ?_, fun b o h => (by cases h), fun b o h => (by cases h), ?_⟩, ⟨fun i a b => trivial, rfl, rfl, fun i r h => h⟩⟩
  · exact absurd (Nat.le_trans h1 h2) (show ¬ 1 ≤ 0 by decide)
  · exact absurd (Nat.le_trans h1 h2) (show ¬ 1 ≤ 0 by decide)
  · exact absurd (Nat.le_trans h1 h2) (show ¬ 1 ≤ 0 by decide)
  · exact absurd (Nat.le_trans h1 h2) (show ¬ 1 ≤ 0 by decide)
  · exact absurd (Nat.le_trans h1 h2) (show ¬ 1 ≤ 0 by decide)
  · show (if i = 0 then rp W else Heap.empty) = Heap.empty
    rw [if_neg (by omega)]
  · show (if b = 0 then rp W else Heap.empty) x = none
    replace hx : (if a = 0 then rp W else Heap.empty) x ≠ none := hx
    by_cases e : a = 0
    · rw [if_neg (by omega)]; rfl
    · rw [if_neg e] at hx; exact absurd rfl hx
  · replace hx : (if a = 0 then rp W else Heap.empty) x ≠ none := hx
    by_cases e : a = 0
    · rw [if_pos e] at hx
      refine ⟨rfl, rfl, id, ?_⟩
      cases h : rp W x with
      | none => exact absurd h hx
      | some o => exact (Array.getElem?_eq_some_iff.1 h).1
    · rw [if_neg e] at hx; exact absurd rfl hx
  · show (if i = 0 then rp W else Heap.empty).le (rp W)
    split
    · exact .refl _
    · intro b o h; cases h
  · have no : ∀ {i : Nat} {a : Touch}, touchAt #[] i = some a → False := fun {i a} h => by simp [touchAt, Trace.act?] at h
    refine ⟨fun said ⟨i, j, _, ⟨a, b, ha, _⟩, _⟩ => no ha, fun op h => by simp [startCf] at h, fun op h => by simp [startCf] at h, fun g i a b ha => (no ha).elim, fun g i a b _ ha => (no ha).elim, fun i a b ha => (no ha).elim, fun g i a b _ ha => (no ha).elim, fun i a b ha => (no ha).elim, fun i a b ha => (no ha).elim, fun i a ha => (no ha).elim, fun i g h => by simp [startCf, Trace.g?] at h⟩
theorem good_start {g : Goroutine} {W : World} (hmi : MIp P Post W0 g ⟨rp W, .solo⟩) (he : Env W0 W) :
    ∃ n last o w' t', runNT P (n + 1) (solo g W) #[] = (.ended o w', t') ∧ runN P n (solo g W) = .next last ∧ step P last = .ended o w' ∧ Conc.Good P Post last o w' t' :=
  company_ends hmi (startCf g W) (start_inv hmi he)
end
end Go.X
namespace Go.X
open Go Go.Sx Go.Conc Go.ConcN
theorem frOk_enter {n : Nat} {fn : Func} {vs : List Value} {F : Slots} (hn : fn.ntmps = n) (hF : Params 0 vs F) (hl : Nat.ble vs.length n = true) :
    FrOk ⟨n, []⟩ { tmps := vs.toArray ++ Array.replicate (fn.ntmps - vs.toArray.size) undef, defers := [] } F := by
  have hl' : vs.length ≤ n := by simpa using hl
  refine ⟨by simp [hn]; omega, rfl, ?_⟩
  have key : ∀ i vs F, Params i vs F → ∀ t v, fget F t = some v → i ≤ t ∧ vs[t - i]? = some v := by
    intro i vs F hp
    induction hp with
    | nil => intro t v h; simp [fget] at h
    | @cons i v vs F _ ih =>
      intro t u h
      rw [fget_cons] at h
      by_cases e : i = t
      · subst e; simp at h; subst h; simp
      · simp only [e, if_false] at h
        have h1 := ih t u h
        refine ⟨by omega, ?_⟩
        have h2 : t - i = (t - (i + 1)) + 1 := by omega
        rw [h2]; simpa using h1.2
  intro t v ht
  have h1 := key 0 vs F hF t v ht
  have h2 : vs[t]? = some v := by simpa using h1.2
  have h3 : t < vs.length := (List.getElem?_eq_some_iff.1 h2).1
  rw [Array.getElem?_append]
  have h4 : vs[t] = v := by rw [List.getElem?_eq_getElem h3] at h2; exact Option.some.inj h2
  simp [h3, h4]
theorem mineP_solo {m : Heap} {n : Nat} {e : Event} (h : MineP m Heap.empty n e) : Mine m n e := by
  rcases h with h | h
  · exact h
  · obtain ⟨a, _, h2, _⟩ := h
    exact absurd rfl h2
def CtR (P : Program) (f : FuncId) (vs : Array Value) (W0 : GW) (H : Heap) (A : List HProp) (Post : Value → Heap → List HProp → Prop) : Prop :=
  ∀ (w : GW) R, StG W0 H w (A ++ R) → w.s = .solo → P.inits.idxOf? f = none → ∀ Wr : BW, Sm Wr w → (∀ r H' B, H.le H' → Post r H' B → ∀ w1, Env Wr.toWorld w1 → H'.le (rp w1) → Wr.post r w1) →
    MIp P Wr.post Wr.toWorld (G (Frame.enter P f vs .normal) []) (xw w)
theorem CtR.go {P : Program} {n : Nat} {W0 : GW} {H : Heap} {f : FuncId} {fn : Func} {c : Code} {vs : List Value} {A : List HProp} {Post : Value → Heap → List HProp → Prop} [hb : TBody P f fn c n]
    (h : ∀ R, Ex P ⟨n, []⟩ W0 (bodyPostV P fn (RetOk W0 H Post R)) (parF 0 vs) H (A ++ R) c []) (hl : Nat.ble vs.length n = true := by rfl) : CtR P f vs.toArray W0 H A Post := by
  intro w R hS hs hi Wr hsm hp
  refine mi_root hb.get hb.body hi (wpX_mono ((h R).run _ w (frOk_enter hb.ntmps (parF_params 0 vs) hl) hS Wr hsm) ?_)
  rintro e a x ⟨w', hr, he, hd, v, hrd, r, H', B, er, hle, hpo, hS'⟩
  cases er
  refine ⟨he, hd, ?_, fun w1 hen hl1 => ?_⟩
  · rw [← hr.s, hS'.sh, ← hS.sh]; exact hs
  · have e2 := hr.eq
    subst e2
    have hsl : w'.s = .solo := by rw [hS'.sh, ← hS.sh]; exact hs
    have hw0 : W0.s = .solo := by rw [← hS.sh]; exact hs
    have hpl : pool w'.s = Heap.empty := by rw [hsl]; rfl
    obtain ⟨k1, k2⟩ := hrd Wr hr.sm w1 hen hl1 (by rw [hpl]; exact fun b o h => by cases h)
    refine ⟨v, k1, fun e he => ?_, hp v H' B hle hpo w1 hen (fun b o hb => ?_)⟩
    · have h5 := k2 e he
      rw [hpl] at h5
      exact ⟨mineP_solo h5.1, h5.2⟩
    · have h6 := hS'.ro b o hb
      rw [hw0] at h6
      rcases union_cases h6 with h7 | ⟨_, h7⟩
      · exact hl1 b o h7
      · have := fz_ne (p := pool Gh.solo) (b := b) (by rw [h7]; simp)
        exact absurd rfl this
def startG (W : World) (post : Value → World → Prop) : GW := { W with output := #[], post := post, s := .solo }
theorem hp_start (W : World) (post : Value → World → Prop) : hp (startG W post).toWorld = rp W := by
  funext b
  simp [hp, hid, startG, rp]
theorem good_law {P : Program} {f : FuncId} {vs : Array Value} {Post : Value → Heap → List HProp → Prop} {W : World} {post : Value → World → Prop} (h : CtR P f vs (startG W post) (rp W) [] Post) (hi : P.inits.idxOf? f = none)
    (hp : ∀ r H' B, (rp W).le H' → Post r H' B → ∀ w1, Env W w1 → H'.le (rp w1) → post r w1) :
    ∃ n last o w' t', runNT P (n + 1) (Conc.solo (G (Frame.enter P f vs .normal) []) W) #[] = (.ended o w', t') ∧ runN P n (Conc.solo (G (Frame.enter P f vs .normal) []) W) = .next last ∧ step P last = .ended o w' ∧ Conc.Good P post last o w' t' := by
  have hst : StG (startG W post) (rp W) (startG W post) ([] ++ []) := by
    refine ⟨⟨rfl, rfl, rfl, fun p hp => by simp [startG] at hp⟩, fun b o hb => ?_, ⟨Heap.empty, trivial, fun b o h => (by cases h), fun b => .inr rfl⟩, rfl, rfl, fun b => .inr rfl⟩
    rw [hp_start]; exact union_l hb
  have := h (startG W post) [] hst rfl hi ⟨W, post⟩ ⟨rfl, rfl, rfl⟩ (fun r H' B h1 h2 w1 h3 h4 => hp r H' B h1 h2 w1 h3 h4)
  unfold xw at this
  rw [hp_start] at this
  exact good_start (W0 := W) (Post := post) this ⟨rfl, rfl, rfl⟩
end Go.X
namespace Go.Proofs.YtafhinjggdknjaaDoor
open Go Go.Sx Go.X Go.Proofs
set_option maxRecDepth 100000 in
set_option maxHeartbeats 16000000 in
theorem planAll_law {W0 : GW} {H : Heap} {c : List Value} {v : Value} {m : Map} {jobs : List Job} {hands : Int} (hs : W0.s = .solo) (hT : TabH Tryd.prog H) (h0 : rMap H c m) (h1 : SlB rJob 5 56 H v jobs) (hf : fits hands) :
    CtR Tryd.prog 3 #[.agg c.toArray, v, I hands] W0 H [] (fun r H' B => r = .bool true ∧ B = []) := by
  refine CtR.go (vs := [.agg c.toArray, v, I hands]) fun R => ?_
  have g0 := h0
  obtain ⟨s0, rfl, f1, f2, f3, h0⟩ := h0
  obtain ⟨b1, c1, rfl, _, _⟩ := h1.1.shape
  refine walk ?_
  refine ops_box rfl rfl fun p3 _ => ?_
  refine walk ?_
  refine ops_call (vs := []) rfl rfl (awake18_spec hT) fun r1 H1 B hl1 ⟨er, eB⟩ => ?_
  subst er eB
  refine walk ?_
  refine ops_call (vs := [.agg (m.cv s0).toArray]) rfl rfl (gNew_spec (RdOk.mono (R := rMap) hl1 g0)) fun r2 H2 B hl2 hgp => ?_
  obtain ⟨g, e, er, eB, h⟩ := hgp
  subst er eB
  have gm := RdOk.mono (R := rMap) (hl1.trans hl2) g0
  rcases h with ⟨hm, hG, rfl⟩ | ⟨hm, rfl, rfl⟩
  rotate_left
  · refine walkG ?_
    refine ops_pcall rfl rfl (rGood_spec gm) ?_
    rw [decide_eq_false hm]
    refine walkG ?_
    refine fin0 ?_
    exact ⟨rfl, rfl⟩
  have hGp := hG
  obtain ⟨⟨bg, s', mb, mm, rfl, _, _, _, _⟩, hgd, hfs⟩ := hGp
  have hle2 : H.le H2 := hl1.trans hl2
  refine walkG ?_
  refine ex_L (L' := ownS rJob 5 56 34 H2 (.slice none 0 0) [] :: R) (Sub.trans (B := R) subA ownS_nil) ?_
  refine ex_loop (σ := Nat × Heap × Value) (fun s => (s.1 ≤ jobs.length ∧ s.1 ≤ 12) ∧ H2.le s.2.1) (fun s => [(10, .int .i64 s.1), (9, s.2.2), (7, .pointer (some ⟨bg, 0, none⟩)), (1, .slice b1 jobs.length c1), (2, I hands)]) (fun s => s.2.1) (fun s => ownS rJob 5 56 34 s.2.1 s.2.2 ((jobs.take s.1).map clipJ) :: R) (fun s => jobs.length - s.1) (0, H2, .slice none 0 0) ⟨⟨Nat.zero_le _, Nat.zero_le _⟩, .refl _⟩ fun ⟨k, Hc, v9⟩ ⟨⟨i1, i2⟩, i3⟩ K hK => ?_
  simp only at i1 i2 i3
  dsimp only
  have hv := h1.1.mono (hle2.trans i3)
  by_cases hk : k < jobs.length ∧ k < 12
  · obtain ⟨k1, k2⟩ := hk
    refine walkG ?_
    refine ops_ixp rfl rfl hv k1 fun b off c' e1 e2 => ?_
    refine ops_ldNH rfl rfl e1 (RdOk.len (R := rJob) e2) ?_
    refine ops_call (vs := [.agg c'.toArray]) rfl rfl (own18_spec e2) fun r5 H5 B hl5 ⟨v5, er, eB, eH⟩ => ?_
    subst er eB eH
    refine ops_freeze v5 fun H6 hl6 hv5 => ?_
    obtain ⟨b5, c5, rfl, _, _⟩ := hv5.1.shape
    refine ops_L (L' := ownS rJob 5 56 34 H6 v9 ((jobs.take k).map clipJ) :: R) (ownS_rle fun _ _ h => RdOk.mono (R := rJob) hl6 h) ?_
    obtain ⟨_, _, g1, g2, g3, g4, _⟩ := e2
    have hlt : ((jobs.take k).map clipJ).length = k := by simp; omega
    refine ops_app1 (y := clipJ jobs[k]) rfl rfl rfl ⟨_, rfl, g1, g2, g3, g4, hv5⟩ (by rw [hlt]; simp only [cap47]; omega) fun b2 cap => ?_
    refine walk ?_
    refine out_next hK (k + 1, H6, .slice b2 (((jobs.take k).map clipJ).length + 1) cap) ⟨⟨k1, k2⟩, i3.trans hl6⟩ (by simp only; omega) (hs := ?_)
    show Sub (ownS rJob 5 56 34 H6 _ ((jobs.take k).map clipJ ++ [clipJ jobs[k]]) :: R) (ownS rJob 5 56 34 H6 _ ((jobs.take (k + 1)).map clipJ) :: R)
    rw [List.take_succ_eq_append_getElem k1, List.map_append]
    exact Sub.refl _
  · clear hK
    refine walkG ?_
    refine ex_if rfl (fun h => absurd ⟨by omega, by omega⟩ hk) (fun h => ?_)
    clear h
    have hlen : ((jobs.take k).map clipJ).length ≤ 12 := by simp; omega
    have hcl : ∀ j ∈ (jobs.take k).map clipJ, j.Taken.length ≤ 60 ∧ clipJ j = j := fun j hj => by
      obtain ⟨j0, _, rfl⟩ := List.mem_map.1 hj
      exact ⟨clip_len, clipJ2⟩
    generalize (jobs.take k).map clipJ = js at *
    clear hk hv i1 i2
    refine ex_freeze v9 fun H3 hl3 hv3 => ?_
    obtain ⟨b3, c3, rfl, _, _⟩ := hv3.1.shape
    have hG3 := hG.mono (i3.trans hl3)
    have hT3 := hT.mono (hle2.trans (i3.trans hl3))
    refine walk ?_
    refine ops_call (vs := [.pointer (some ⟨bg, 0, none⟩), .slice b3 js.length c3, I hands]) rfl rfl (all_spec hs hT3 hG3 hv3.1 (fun j hj => by have := (hcl j hj).1; omega) (by omega) hf) fun r4 H4 B hl4 ⟨s1, s2, er, eB⟩ => ?_
    subst er eB
    refine ops_freeze s1 fun H5 hl5 hr5 => ?_
    refine ops_freeze s2 fun H6 hl6 hr6 => ?_
    obtain ⟨bs1, cs1, rfl, _, _⟩ := hr5.1.shape
    obtain ⟨bs2, cs2, rfl, _, _⟩ := hr6.1.shape
    have hlr : (js.map (planRt m)).length = js.length := by simp
    have hlc : (js.map (planC m)).length = js.length := by simp
    rw [hlr] at hr5
    rw [hlc] at hr6
    rw [hlr, hlc]
    refine walkG ?_
    have hr5' := hr5.mono hl6
    have hle6 : H3.le H6 := hl4.trans (hl5.trans hl6)
    refine ex_loop (σ := Nat) (fun k => k ≤ js.length) (fun k => [(71, .int .i64 k), (70, .int .i64 js.length), (7, .pointer (some ⟨bg, 0, none⟩)), (9, .slice b3 js.length c3), (11, .slice bs1 js.length cs1), (12, .slice bs2 js.length cs2)]) (fun _ => H6) (fun _ => R) (fun k => js.length - k) 0 (Nat.zero_le _) fun k hk K2 hK2 => ?_
    have hv := hv3.1.mono hle6
    have hG6 := hG3.mono hle6
    have hT6 := hT3.mono hle6
    by_cases hlt : k < js.length
    · refine walk ?_
      refine ops_ixp rfl rfl hv hlt fun b off c' e1 e2 => ?_
      refine ops_ldNH rfl rfl e1 (RdOk.len (R := rJob) e2) ?_
      refine ops_call (vs := [.agg c'.toArray]) rfl rfl (own18_spec e2) fun r7 H7 B hl7 ⟨v7, er, eB, eH⟩ => ?_
      subst er eB eH
      refine ops_freeze v7 fun H8 hl8 hv8 => ?_
      have hjk := hcl _ (List.getElem_mem hlt)
      rw [hjk.2] at hv8 ⊢
      obtain ⟨b7, c7, rfl, _, _⟩ := hv8.1.shape
      obtain ⟨_, _, q1, q2, q3, q4, _⟩ := e2
      have gj : rJob H8 (js[k].cv (.slice b7 js[k].Taken.length c7)) js[k] := ⟨_, rfl, q1, q2, q3, q4, hv8⟩
      refine ops_call (vs := [.pointer (some ⟨bg, 0, none⟩), .agg (js[k].cv (.slice b7 js[k].Taken.length c7)).toArray]) rfl rfl (plan_any (hT6.mono hl8) (hG6.mono hl8) gj (by omega)) fun r9 H9 B hl9 ⟨v9', er, eB⟩ => ?_
      subst er eB
      refine ops_freeze v9' fun H10 hl10 hv10 => ?_
      obtain ⟨b9, c9, rfl, _, _⟩ := hv10.1.shape
      refine walk ?_
      refine ops_alloc rfl fun p14 _ => ?_
      refine walk ?_
      have hle10 := hl8.trans (hl9.trans hl10)
      have hc6 := (hr6.mono hle10).1
      have hr5'' := (hr5'.mono hle10).1
      refine ex_any 15 [row p14 41 [I (planRt m js[k]).Start, .slice b9 (planRt m js[k]).Cells.length c9]] ?_
      refine stepY 0 ?_; refine stepY 1 ?_
      refine gny_el 2 3 rfl rfl rfl rfl rfl hc6 (by simpa using hlt) ?_
      rw [List.getElem_map]
      refine stepY 4 ?_; refine stepY 5 ?_; refine stepY 6 ?_; refine stepY 7 ?_; refine stepY 8 ?_
      refine gny_ixp 9 rfl rfl rfl hr5'' (by simpa using hlt) fun bz oz cz e3 e4 => ?_
      rw [List.getElem_map] at e4
      refine gny_ldNH 10 rfl rfl rfl e3 (RdOk.len (R := rRoute) e4) ?_
      refine stepY 11 ?_
      refine gny_pcall 12 rfl rfl rfl (sameRoute_spec (x := planRt m js[k]) (y := planRt m js[k]) e4 ⟨_, rfl, fits_start q2, hv10⟩) ?_
      rw [decide_eq_true (p := planRt m js[k] = planRt m js[k]) rfl]
      refine stepY 13 ?_; refine stepY 14 ?_
      refine any_rest rfl ?_
      refine walk ?_
      exact out_weak hle10 (out_next hK2 (k + 1) hlt)
    · refine walk ?_
      refine fin0 ?_
      exact ⟨rfl, rfl⟩
end Go.Proofs.YtafhinjggdknjaaDoor
