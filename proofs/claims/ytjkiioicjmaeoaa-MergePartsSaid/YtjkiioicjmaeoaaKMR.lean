/- The law MergeParts, walked. -/
import Derived.Test.YtjkiioicjmaeoaaKE6
import Derived.Test.YtjkiioicjmaeoaaKMN
import Derived.Test.YtjkiioicjmaeoaaKSx6
import Derived.Test.YtjkiioicjmaeoaaKYJ
set_option linter.unusedVariables false
set_option linter.unusedSimpArgs false
namespace Go.X
open Go Go.Sx Go.Conc Go.ConcN
section
variable {P : Program} {Post : Value → World → Prop} {W0 : World}
theorem stepG_done {main : Bool} {b : Frame} {a : Act} {w : World} {fn : Func} {todo : List Item} {v : Value} (hm : main = true) (hn : b.kind = .normal) (hd : a.defers = []) (hf : P.funcs[b.fn]? = some fn) (hr : (results fn a.tmps).run P w = .ok v w) (hi : P.inits.idxOf? b.fn = none) :
    stepG P main (G { b.at a todo with mode := .returning } []) w = .ended (.done v) w (seen P b.fn ((results fn a.tmps).events P w #[])) := by
  subst hm
  simp [G, stepG, unwind, doReturn, Frame.at, hn, hd, hf, hr, hi, GStep.after]
theorem mi_root {f : FuncId} {fn : Func} {c : Code} {args : Array Value} {x : XW Gh} (hf : P.funcs[f]? = some fn) (hb : fn.body = some c) (hi : P.inits.idxOf? f = none)
    (h : c.wpX P kd W0 (SP P Post W0) (fun e a x => (e = .normal ∨ e = .ret) ∧ a.defers = [] ∧ x.s = .solo ∧ ∀ w, Env W0 w → x.m.le (rp w) → ∃ v, (results fn a.tmps).run P w = .ok v w ∧ (∀ e ∈ (results fn a.tmps).events P w #[], Mine x.m w.heap.size e ∧ EvLow w.heap.size e) ∧ Post v w)
      { tmps := args ++ Array.replicate (fn.ntmps - args.size) undef, defers := [] } x) : MIp P Post W0 (G (Frame.enter P f args .normal) []) x := by
  rw [enter_at args hf hb]
  have leave : ∀ (a : Act) (x : XW Gh) (todo : List Item), a.defers = [] → x.s = .solo → (∀ w, Env W0 w → x.m.le (rp w) → ∃ v, (results fn a.tmps).run P w = .ok v w ∧ (∀ e ∈ (results fn a.tmps).events P w #[], Mine x.m w.heap.size e ∧ EvLow w.heap.size e) ∧ Post v w) →
      MIp P Post W0 (G { (base f).at a todo with mode := .returning } []) x := by
    intro a x todo hd hs hx
    obtain ⟨m, s⟩ := x
    replace hs : s = .solo := hs
    subst hs
    refine MI.special (sp_mono P Post W0) (.fin rfl fun w he hl => ?_)
    obtain ⟨v, h1, h2, h3⟩ := hx w he hl
    exact ⟨v, _, stepG_done (b := base f) rfl rfl hd hf h1 hi, fun e he => h2 e (mem_seen he), h3⟩
  refine h (base f) [] [] (by simp [base]) fun e a' x' q => ?_
  obtain ⟨he, hd, hs, hx⟩ := q
  rcases he with rfl | rfl
  · exact .ctl rfl (fun _ _ => stepG_end) (leave a' x' [] hd hs hx)
  · exact fun todo => leave a' x' todo hd hs hx
def startCf (g : Goroutine) (W : World) : Cf :=
  ⟨#[g], W, none, #[], 0, .run, fun _ => (g, ⟨Heap.empty, .solo⟩), fun _ => .Q 0, ⟨0, fun i => if i = 0 then rp W else Heap.empty, Heap.empty, Heap.empty, 0, fun _ => False, fun _ => False, fun _ => False, fun _ _ => False, fun _ _ => False⟩⟩
theorem start_inv {g : Goroutine} {W : World} (hmi : MIp P Post W0 g ⟨rp W, .solo⟩) (he : Env W0 W) : Inv P Post W0 (startCf g W) g ⟨rp W, .solo⟩ := by
  have hr := mi_running hmi
  refine ⟨⟨rfl, he, ⟨g, rfl, .run (.refl hr)⟩, fun i pk h1 h2 => ?_, fun i q h1 h2 => ?_, fun i h1 h2 => ?_, rfl, fun i h1 h2 => ?_, rfl, rfl, fun i h1 h2 => ?_, fun i h1 h2 => ?_, fun i => ⟨fun h => h.elim, fun ⟨a, b, c⟩ => c⟩, fun i => ⟨fun h => h.elim, fun ⟨a, b, c⟩ => c trivial⟩, ⟨fun a b x hne hx => ?_, fun a x hx => ?_, fun x hx => absurd rfl hx, fun x hx => absurd rfl hx, fun a h => h, fun x h => h.elim, fun a x h => h⟩, fun i => ?_, fun b o h => (by cases h), fun b o h => (by cases h), ?_⟩, ⟨fun i a b => trivial, rfl, rfl, fun i r h => h⟩⟩
  · exact absurd (Nat.le_trans h1 h2) (show ¬ 1 ≤ 0 by decide)
  · exact absurd (Nat.le_trans h1 h2) (show ¬ 1 ≤ 0 by decide)
  · exact absurd (Nat.le_trans h1 h2) (show ¬ 1 ≤ 0 by decide)
  · exact absurd (Nat.le_trans h1 h2) (show ¬ 1 ≤ 0 by decide)
  · exact absurd (Nat.le_trans h1 h2) (show ¬ 1 ≤ 0 by decide)
  · show (if i = 0 then rp W else Heap.empty) = Heap.empty
    rw [if_neg (by omega)]
  · show (if b = 0 then rp W else Heap.empty) x = none
    replace hx : (if a = 0 then rp W else Heap.empty) x ≠ none := hx
    by_cases e : a = 0
    · rw [if_neg (by omega)]; rfl
    · rw [if_neg e] at hx; exact absurd rfl hx
  · replace hx : (if a = 0 then rp W else Heap.empty) x ≠ none := hx
    by_cases e : a = 0
    · rw [if_pos e] at hx
      refine ⟨rfl, rfl, id, ?_⟩
      cases h : rp W x with
      | none => exact absurd h hx
      | some o => exact (Array.getElem?_eq_some_iff.1 h).1
    · rw [if_neg e] at hx; exact absurd rfl hx
  · show (if i = 0 then rp W else Heap.empty).le (rp W)
    split
    · exact .refl _
    · intro b o h; cases h
  · have no : ∀ {i : Nat} {a : Touch}, touchAt #[] i = some a → False := fun {i a} h => by simp [touchAt, Trace.act?] at h
    refine ⟨fun said ⟨i, j, _, ⟨a, b, ha, _⟩, _⟩ => no ha, fun op h => by simp [startCf] at h, fun op h => by simp [startCf] at h, fun g i a b ha => (no ha).elim, fun g i a b _ ha => (no ha).elim, fun i a b ha => (no ha).elim, fun g i a b _ ha => (no ha).elim, fun i a b ha => (no ha).elim, fun i a b ha => (no ha).elim, fun i a ha => (no ha).elim, fun i g h => by simp [startCf, Trace.g?] at h⟩
theorem good_start {g : Goroutine} {W : World} (hmi : MIp P Post W0 g ⟨rp W, .solo⟩) (he : Env W0 W) :
    ∃ n last o w' t', runNT P (n + 1) (solo g W) #[] = (.ended o w', t') ∧ runN P n (solo g W) = .next last ∧ step P last = .ended o w' ∧ Conc.Good P Post last o w' t' :=
  company_ends hmi (startCf g W) (start_inv hmi he)
end
end Go.X
namespace Go.X
open Go Go.Sx Go.Conc Go.ConcN
theorem frOk_enter {n : Nat} {fn : Func} {vs : List Value} {F : Slots} (hn : fn.ntmps = n) (hF : Params 0 vs F) (hl : Nat.ble vs.length n = true) :
    FrOk ⟨n, []⟩ { tmps := vs.toArray ++ Array.replicate (fn.ntmps - vs.toArray.size) undef, defers := [] } F := by
  have hl' : vs.length ≤ n := by simpa using hl
  refine ⟨by simp [hn]; omega, rfl, ?_⟩
  have key : ∀ i vs F, Params i vs F → ∀ t v, fget F t = some v → i ≤ t ∧ vs[t - i]? = some v := by
    intro i vs F hp
    induction hp with
    | nil => intro t v h; simp [fget] at h
    | @cons i v vs F _ ih =>
      intro t u h
      rw [fget_cons] at h
      by_cases e : i = t
      · subst e; simp at h; subst h; simp
      · simp only [e, if_false] at h
        have h1 := ih t u h
        refine ⟨by omega, ?_⟩
        have h2 : t - i = (t - (i + 1)) + 1 := by omega
        rw [h2]; simpa using h1.2
  intro t v ht
  have h1 := key 0 vs F hF t v ht
  have h2 : vs[t]? = some v := by simpa using h1.2
  have h3 : t < vs.length := (List.getElem?_eq_some_iff.1 h2).1
  rw [Array.getElem?_append]
  have h4 : vs[t] = v := by rw [List.getElem?_eq_getElem h3] at h2; exact Option.some.inj h2
  simp [h3, h4]
def CtR (P : Program) (f : FuncId) (vs : Array Value) (W0 : GW) (H : Heap) (A : List HProp) (Post : Value → Heap → List HProp → Prop) : Prop :=
  ∀ (w : GW) R, StG W0 H w (A ++ R) → w.s = .solo → P.inits.idxOf? f = none → ∀ Wr : BW, Sm Wr w → (∀ r H' B, H.le H' → Post r H' B → ∀ w1, Env Wr.toWorld w1 → H'.le (rp w1) → Wr.post r w1) →
    MIp P Wr.post Wr.toWorld (G (Frame.enter P f vs .normal) []) (xw w)
theorem CtR.go {P : Program} {n : Nat} {W0 : GW} {H : Heap} {f : FuncId} {fn : Func} {c : Code} {vs : List Value} {A : List HProp} {Post : Value → Heap → List HProp → Prop} [hb : TBody P f fn c n]
    (h : ∀ R, Ex P ⟨n, []⟩ W0 (bodyPostV P fn (RetOk W0 H Post R)) (parF 0 vs) H (A ++ R) c []) (hl : Nat.ble vs.length n = true := by rfl) : CtR P f vs.toArray W0 H A Post := by
  intro w R hS hs hi Wr hsm hp
  refine mi_root hb.get hb.body hi (wpX_mono ((h R).run _ w (frOk_enter hb.ntmps (parF_params 0 vs) hl) hS Wr hsm) ?_)
  rintro e a x ⟨w', hr, he, hd, v, hrd, r, H', B, er, hle, hpo, hS'⟩
  cases er
  refine ⟨he, hd, ?_, fun w1 hen hl1 => ?_⟩
  · rw [← hr.s, hS'.sh, ← hS.sh]; exact hs
  · have e2 := hr.eq
    subst e2
    obtain ⟨k1, k2⟩ := hrd Wr hr.sm w1 hen hl1
    exact ⟨v, k1, k2, hp v H' B hle hpo w1 hen (hS'.ro.trans hl1)⟩
def startG (W : World) (post : Value → World → Prop) : GW := { W with output := #[], post := post, s := .solo }
theorem hp_start (W : World) (post : Value → World → Prop) : hp (startG W post).toWorld = rp W := by
  funext b
  simp [hp, hid, startG, rp]
theorem good_law {P : Program} {f : FuncId} {vs : Array Value} {Post : Value → Heap → List HProp → Prop} {W : World} {post : Value → World → Prop} (h : CtR P f vs (startG W post) (rp W) [] Post) (hi : P.inits.idxOf? f = none)
    (hp : ∀ r H' B, (rp W).le H' → Post r H' B → ∀ w1, Env W w1 → H'.le (rp w1) → post r w1) :
    ∃ n last o w' t', runNT P (n + 1) (Conc.solo (G (Frame.enter P f vs .normal) []) W) #[] = (.ended o w', t') ∧ runN P n (Conc.solo (G (Frame.enter P f vs .normal) []) W) = .next last ∧ step P last = .ended o w' ∧ Conc.Good P post last o w' t' := by
  have hst : StG (startG W post) (rp W) (startG W post) ([] ++ []) := by
    refine ⟨⟨⟨rfl, rfl, rfl, fun p hp => by simp [startG] at hp⟩, ?_, Heap.empty, trivial, fun b o h => (by cases h), fun b => .inr rfl⟩, rfl, rfl, fun b => .inr rfl⟩
    rw [hp_start]; exact .refl _
  have := h (startG W post) [] hst rfl hi ⟨W, post⟩ ⟨rfl, rfl, rfl⟩ (fun r H' B h1 h2 w1 h3 h4 => hp r H' B h1 h2 w1 h3 h4)
  unfold xw at this
  rw [hp_start] at this
  exact good_start (W0 := W) (Post := post) this ⟨rfl, rfl, rfl⟩
end Go.X
namespace Go.Proofs.Ytjkiioicjmaeoaa
open Go Go.Sx Go.X Go.Proofs
theorem tot_le {ls : List (List Entry)} (h : ∀ l ∈ ls, l.length ≤ 60) : tot ls ≤ ls.length * 60 := by
  induction ls with
  | nil => simp [tot]
  | cons a t ih =>
    have h1 := ih fun l hl => h l (List.mem_cons_of_mem _ hl)
    have h2 := h a (List.mem_cons_self ..)
    simp only [tot, List.map_cons, List.sum_cons, List.length_cons] at h1 ⊢
    omega
theorem cutL_len {ls : List (List Entry)} : (cutL ls).length ≤ 8 := by simp only [cutL, List.length_map, List.length_take]; omega
theorem cutL_el {ls : List (List Entry)} : ∀ l ∈ cutL ls, l.length ≤ 60 := fun l hl => by
  obtain ⟨x, _, rfl⟩ := List.mem_map.1 hl
  simp only [List.length_take]; omega
theorem cutL_tot {ls : List (List Entry)} : tot (cutL ls) * 48 ≤ cap47 := by
  have h1 := tot_le (cutL_el (ls := ls))
  have h2 := cutL_len (ls := ls)
  unfold cap47; omega
theorem cutL_few {ls : List (List Entry)} : (cutL ls).length + 2 < 2147483648 := by
  have h2 := cutL_len (ls := ls)
  omega
theorem fst_isM {xs r : List Entry} (h : IsM xs r) (x : Entry) : fst? r x = fst? xs x := by
  cases hx : fst? xs x with
  | none =>
    refine fst_none.2 fun y hy he => ?_
    have h1 := (h.2 y).1 hy
    rw [fst_eqv he, hx] at h1
    cases h1
  | some y =>
    have h1 := (fst_some hx).1
    have h2 : y ∈ r := (h.2 y).2 (by rw [fst_eqv h1, hx])
    rw [← fst_eqv h1]
    exact pw_fst h.1 h2
theorem refM_parts (xs ys : List Entry) : refM (refM xs ++ refM ys) = refM (xs ++ ys) := by
  refine ((isM_refM _).congr fun x => ?_).uniq (isM_refM (xs ++ ys))
  rw [fst_app, fst_app, fst_isM (isM_refM xs), fst_isM (isM_refM ys)]
theorem MrgR.good {H : Heap} {r : Value} {ls : List (List Entry)} (h : MrgR 9223372036854775807 ls H r) (ho : ∀ l ∈ ls, Ordd l) : ∃ b c, r = .tuple #[.slice b (refM ls.flatten).length c, .int .i64 0] ∧ LB H (.slice b (refM ls.flatten).length c) (refM ls.flatten) := by
  obtain ⟨s, code, res, er, p, hh⟩ := h
  obtain ⟨-, rfl, m⟩ := hh.resolve_left fun h => h.1 ho
  have e := mrg_ref m ho
  have hl := p.len
  simp only [cap47] at hl
  rw [List.take_of_length_le (by
    rcases Nat.lt_or_ge (9223372036854775807 : Int).toNat (refM ls.flatten).length with h | h
    · rw [e, List.length_take] at hl; omega
    · exact h)] at e
  subst e
  obtain ⟨b, c, rfl, _, _⟩ := p.1.shape
  exact ⟨b, c, er, p⟩
theorem MrgR.bad {n : Int} {H : Heap} {r : Value} {ls : List (List Entry)} (h : MrgR n ls H r) (ho : ¬ ∀ l ∈ ls, Ordd l) : ∃ b c, r = .tuple #[.slice b 0 c, .int .i64 60] := by
  obtain ⟨s, code, res, er, p, hh⟩ := h
  obtain ⟨-, rfl, rfl⟩ := hh.resolve_right fun h => ho h.1
  obtain ⟨b, c, rfl, _, _⟩ := p.1.shape
  exact ⟨b, c, er⟩
set_option maxHeartbeats 4000000 in
theorem parts_law {W0 : GW} {H : Heap} {v : Value} {ls : List (List Entry)} {n : Int} (hs : W0.s = .solo) (hv : LsB H v ls) (hn : fits n) : CtR Try.prog 4 #[v, .int .i64 n] W0 H [] (fun r H' B => r = .bool true ∧ B = []) := by
  refine CtR.go (vs := [_, _]) fun R => ?_
  obtain ⟨b0, c0, rfl, hc0, hd0⟩ := hv.1.shape
  refine walk ?_
  refine ops_call rfl rfl (awake_spec hs) fun r H1 B hl1 ⟨er, eB⟩ => ?_
  subst er eB
  refine walk ?_
  refine ops_call rfl rfl (cut_spec (hv.mono hl1)) fun r H2 B hl2 ⟨q2, eB⟩ => ?_
  subst eB
  have hlen8 := cutL_len (ls := ls)
  have htot := cutL_tot (ls := ls)
  have hfew := cutL_few (ls := ls)
  generalize hcs : cutL ls = cs at *
  obtain ⟨b2, c2, rfl, hc2, hd2⟩ := q2.1.shape
  refine walk ?_
  refine ops_call rfl rfl (good_spec q2) fun r H3 B hl3 ⟨⟨gb, er, hgb⟩, eB, eH⟩ => ?_
  subst er eB eH
  cases gb with
  | false =>
    have hno : ¬ ∀ l ∈ cs, Ordd l := fun h => by cases hgb.2 h
    refine walk ?_
    refine ops_call rfl rfl (merge_spec hs q2 htot hfew) fun r H4 B hl4 ⟨hm, eB⟩ => ?_
    subst eB
    obtain ⟨b4, c4, rfl⟩ := hm.bad hno
    refine walk ?_
    refine fin0 ?_
    exact ⟨rfl, rfl⟩
  | true =>
    have hyes := hgb.1 rfl
    have hw : 0 ≤ IntKind.u64.wrap n := by rw [IntKind.wrap_u64]; omega
    have e1 : IntKind.u64.wrap ((cs.length : Int) + 1) = (cs.length : Int) + 1 := by rw [IntKind.wrap_u64]; omega
    obtain ⟨k, hk, hk8⟩ : ∃ k : Nat, (IntKind.u64.wrap n).tmod ((cs.length : Int) + 1) = (k : Int) ∧ k ≤ cs.length := by
      have h1 : (IntKind.u64.wrap n).tmod ((cs.length : Int) + 1) = (IntKind.u64.wrap n) % ((cs.length : Int) + 1) := Int.tmod_eq_emod_of_nonneg hw
      have h2 := Int.emod_nonneg (IntKind.u64.wrap n) (b := (cs.length : Int) + 1) (by omega)
      have h3 := Int.emod_lt_of_pos (IntKind.u64.wrap n) (b := (cs.length : Int) + 1) (by omega)
      exact ⟨((IntKind.u64.wrap n) % ((cs.length : Int) + 1)).toNat, by omega, by omega⟩
    refine walk ?_
    rw [e1]
    refine walk ?_
    rw [hk]
    refine walk ?_
    simp only [Int.toNat_natCast]
    have hA : ∀ l ∈ cs.take k, Ordd l := fun l hl => hyes l (List.mem_of_mem_take hl)
    have hB : ∀ l ∈ cs.drop k, Ordd l := fun l hl => hyes l (List.mem_of_mem_drop hl)
    have hsplit : (cs.take k).flatten ++ (cs.drop k).flatten = cs.flatten := by rw [← List.flatten_append, List.take_append_drop]
    have ht2 : tot (cs.take k) + tot (cs.drop k) = tot cs := by rw [tot_flat, tot_flat, tot_flat, ← hsplit, List.length_append]
    have hwl := q2.2
    have qa : LsB H3 (.slice b2 k c2) (cs.take k) := ⟨by simpa [List.length_take, Nat.min_eq_left hk8] using SlR.pre q2.1 hk8, by simp only [List.length_take]; omega⟩
    refine ops_call rfl rfl (merge_spec hs qa (by omega) (by simp only [List.length_take]; omega)) fun r H4 B hl4 ⟨hm4, eB⟩ => ?_
    subst eB
    obtain ⟨b4, c4, rfl, q4⟩ := hm4.good hA
    refine walk ?_
    refine ops_pure rfl rfl (op_slice (l := k) (h := cs.length) (sz := 1) rfl rfl rfl (by omega) (by omega) (by omega)) ?_
    have hsc := (q2.mono hl4).1.slc (l := k) (h := cs.length) hk8 (Nat.le_refl _)
    rw [show (cs.drop k).take (cs.length - k) = cs.drop k by rw [List.take_of_length_le (by simp)]] at hsc
    refine ops_call rfl rfl (merge_spec (ls := cs.drop k) hs ⟨by simpa using hsc, by simp only [List.length_drop]; omega⟩ (by omega) (by simp only [List.length_drop]; omega)) fun r H5 B hl5 ⟨hm5, eB⟩ => ?_
    subst eB
    obtain ⟨b5, c5, rfl, q5⟩ := hm5.good hB
    refine walk ?_
    refine ops_bsM [[.slice none 0 0], [.slice b4 _ c4], [.slice none 0 0], [.slice b5 _ c5]] rfl rfl ⟨⟨rfl, rfl⟩, ⟨rfl, rfl⟩, ⟨rfl, rfl⟩, ⟨rfl, rfl⟩, trivial⟩ fun p6 _ => ?_
    have q4' := q4.mono hl5
    have la := refM_len (cs.take k).flatten
    have lb := refM_len (cs.drop k).flatten
    rw [← tot_flat] at la lb
    have hAo := pw_ordd (isM_refM (cs.take k).flatten).1
    have hBo := pw_ordd (isM_refM (cs.drop k).flatten).1
    have hC : refM (refM (cs.take k).flatten ++ refM (cs.drop k).flatten) = refM cs.flatten := by rw [refM_parts, hsplit]
    generalize ha : refM (cs.take k).flatten = A at *
    generalize hb : refM (cs.drop k).flatten = B at *
    refine ops_L (row_ownS (R := rSl rEntry 4 48) (H := H5) (w := 24) (xs := [[], A, [], B]) (rlL rfl fun i h h' => by
      have : i = 0 ∨ i = 1 ∨ i = 2 ∨ i = 3 := by simp at h; omega
      rcases this with rfl | rfl | rfl | rfl
      · exact ⟨SlR.nil _ _ _ _ _ (by decide), by simp⟩
      · exact q4'
      · exact ⟨SlR.nil _ _ _ _ _ (by decide), by simp⟩
      · exact q5) (by simp [cap47]) (by simp)) ?_
    refine ops_freeze (.slice (some ⟨p6, 0, none⟩) 4 4) fun H6 hl6 q6 => ?_
    refine ops_call rfl rfl (merge_spec hs q6 (by simp only [tot, List.map_cons, List.map_nil, List.sum_cons, List.sum_nil, List.length_nil]; simp only [tot] at *; omega) (by simp)) fun r H7 B7 hl7 ⟨hm7, eB⟩ => ?_
    subst eB
    have hall : ∀ l ∈ [[], A, [], B], Ordd l := fun l hl => by
      simp only [List.mem_cons, List.not_mem_nil, or_false] at hl
      rcases hl with rfl | rfl | rfl | rfl
      · exact fun i h => absurd h (by simp)
      · exact hAo
      · exact fun i h => absurd h (by simp)
      · exact hBo
    obtain ⟨b7, c7, rfl, q7⟩ := hm7.good hall
    rw [show [[], A, [], B].flatten = A ++ B by simp, hC] at q7 ⊢
    refine walk ?_
    refine ops_call rfl rfl (merge_spec hs (q2.mono (hl4.trans (hl5.trans (hl6.trans hl7)))) htot hfew) fun r H8 B8 hl8 ⟨hm8, eB⟩ => ?_
    subst eB
    obtain ⟨b8, c8, rfl, q8⟩ := hm8.good hyes
    have hMo := pw_ordd (isM_refM cs.flatten).1
    generalize refM cs.flatten = M at *
    obtain ⟨_, _, e8, hc8, hd8⟩ := q8.1.shape
    cases e8
    have hM60 := q8.2
    refine walk ?_
    refine ops_call rfl rfl (same_spec (q7.mono hl8) q8) fun r H9 B9 hl9 ⟨er, eB, eH⟩ => ?_
    subst er eB eH
    rw [decide_eq_true rfl]
    refine walk ?_
    refine ex_loop (fun i : Nat => i ≤ M.length) (fun i => [(87, .int .i64 i), (86, .int .i64 M.length), (14, .slice b8 M.length c8)]) (fun _ => H9) (fun _ => R) (fun i => M.length - i) 0 (Nat.zero_le _) fun i hi K hK => ?_
    by_cases hlt : i < M.length
    · by_cases h0 : (0 : Int) < i
      · refine walk ?_
        refine ops_ixp (j := i - 1) (hi := ⟨by omega⟩) rfl rfl q8.1 (by omega) fun x1 o1 d1 k1 k2 => ?_
        obtain ⟨rfl, -⟩ := k2
        refine ops_ldNH rfl rfl k1 rfl ?_
        refine walk ?_
        refine ops_ixp rfl rfl q8.1 hlt fun x2 o2 d2 k3 k4 => ?_
        obtain ⟨rfl, -⟩ := k4
        refine ops_ldNH rfl rfl k3 rfl ?_
        refine ops_pcall rfl rfl rBefore_spec ?_
        have hb := hMo (i - 1) (by omega)
        have e : i - 1 + 1 = i := by omega
        simp only [e] at hb
        rw [decide_eq_true hb]
        refine walk ?_
        exact out_next hK (i + 1) hlt
      · refine walk ?_
        exact out_next hK (i + 1) hlt
    · refine walk ?_
      refine fin0 ?_
      exact ⟨rfl, rfl⟩
end Go.Proofs.Ytjkiioicjmaeoaa
