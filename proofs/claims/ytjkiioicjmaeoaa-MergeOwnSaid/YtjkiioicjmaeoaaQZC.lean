/- Entries without a body as special steps: marks, atomics, the semaphore. No program in sight. -/
import Derived.Test.YtjkiioicjmaeoaaQZA
import Derived.Conc.WgGenW
import Derived.Conc.WgArith
set_option linter.unusedVariables false
set_option linter.unusedSimpArgs false
namespace Go.X
open Go Go.Sx Go.Conc Go.ConcN
open Go.ConcR (KK wgBlock WgAt stA smA rd wr mk)
def CtG (P : Program) (f : FuncId) (vs : Array Value) (W0 : GW) (H : Heap) (A : List HProp) (Post : Value → GW → Heap → List HProp → Prop) : Prop :=
  ∀ (w : GW) R, StG W0 H w (A ++ R) → CallsV P f vs w fun e w' => ∃ r W1 H' B, e = .returned r ∧ Post r W1 H' B ∧ StG W1 H' w' (B ++ R)
def RetOkG (Post : Value → GW → Heap → List HProp → Prop) (R : List HProp) : Ending → GW → Prop :=
  fun e w' => ∃ r W1 H' B, e = .returned r ∧ Post r W1 H' B ∧ StG W1 H' w' (B ++ R)
theorem frOk_par {k : Nat} {fn : Func} {vs : List Value} (hn : fn.ntmps = k) (hl : Nat.ble vs.length k = true) :
    FrOk ⟨k, []⟩ { tmps := vs.toArray ++ Array.replicate (fn.ntmps - vs.toArray.size) undef, defers := [] } (parF 0 vs) := by
  have hF := parF_params 0 vs
  have hl' : vs.length ≤ k := by simpa using hl
  refine ⟨by simp [hn]; omega, rfl, ?_⟩
  have key : ∀ i vs F, Params i vs F → ∀ t v, fget F t = some v → i ≤ t ∧ vs[t - i]? = some v := by
    intro i vs F hp
    induction hp with
    | nil => intro t v h; simp [fget] at h
    | @cons i v vs F _ ih =>
      intro t u h
      rw [fget_cons] at h
      by_cases e : i = t
      · subst e; simp at h; subst h; simp
      · simp only [e, if_false] at h
        have h1 := ih t u h
        refine ⟨by omega, ?_⟩
        have h2 : t - i = (t - (i + 1)) + 1 := by omega
        rw [h2]; simpa using h1.2
  intro t v ht
  have h1 := key 0 vs _ hF t v ht
  have h2 : vs[t]? = some v := by simpa using h1.2
  have h3 : t < vs.length := (List.getElem?_eq_some_iff.1 h2).1
  rw [Array.getElem?_append]
  have h4 : vs[t] = v := by rw [List.getElem?_eq_getElem h3] at h2; exact Option.some.inj h2
  simp [h3, h4]
section
variable {q : Bool} {P : Program} {n : NF} {W0 : GW} {Q : Exit → Act → GW → Prop} {F : Slots} {H : Heap} {L : List HProp} {ops : Array Oper} {rest : List Oper} {k : List Fr} {op : Op} {ty : TypeId} {pos : String} {aft : Array Edge} {d : Tmp} {dst : Option Tmp} {g : Option (Nat × Bool)} {K : Value → GW → Heap → List HProp → Prop}
theorem CtG.go {k : Nat} {f : FuncId} {fn : Func} {c : Code} {vs : List Value} {A : List HProp} {Post : Value → GW → Heap → List HProp → Prop} [hb : TBody P f fn c k]
    (h : ∀ R, Ex P ⟨k, []⟩ W0 (bodyPostV P fn (RetOkG Post R)) (parF 0 vs) H (A ++ R) c []) (hl : Nat.ble vs.length k = true := by rfl) : CtG P f vs.toArray W0 H A Post :=
  fun w R hS => callsV_of hb.get hb.body ((h R).run _ w (frOk_par hb.ntmps hl) hS)
theorem retG {fn : Func} {Post : Value → GW → Heap → List HProp → Prop} {R B : List HProp} {rs : List ResultVar} {vs : List Value} {v : Value} (hfn : fn.results = rs.toArray) (hr : ResR P F L rs vs) (hv : tup vs = v)
    (hp : Post v W0 H B) (hs : Sub L (B ++ R)) (hD : n.D = []) : Sat n W0 F H L (fun a w => ∀ e, (e = Exit.normal ∨ e = Exit.ret) → bodyPostV P fn (RetOkG Post R) e a w) :=
  fun _ _ hF hS e he => ⟨he, hF.defs.trans hD, v, reads_of hS fun {W1} w hS => results_run hfn hr hv hF hS, v, W0, H, B, rfl, hp, hS.sub hs⟩
theorem finG {fn : Func} {Post : Value → GW → Heap → List HProp → Prop} {R : List HProp} {rs : List ResultVar} {vs : List Value} {v : Value} (B : List HProp) (hp : Post v W0 H B) (hfn : fn.results = rs.toArray := by rfl)
    (hr : ResR P F L rs vs := by repeat (first | exact Go.Sx.ResR.nil | (apply Go.Sx.ResR.tmp; (exact rfl)) | (apply Go.Sx.ResR.cell1; (exact inferInstance); (exact rfl); (repeat (first | exact Go.Sx.Has.here | apply Go.Sx.Has.there)); (exact rfl)) | (apply Go.Sx.ResR.cellN; (exact inferInstance); (exact inferInstance); (exact rfl); (repeat (first | exact Go.Sx.Has.here | apply Go.Sx.Has.there)); (exact Go.Sx.pickC_pick rfl))))
    (hv : tup vs = v := by first | exact Go.Sx.tup_one | exact Go.Sx.tup_many | rfl)
    (hs : Sub L (B ++ R) := by (try dsimp only [List.nil_append, List.cons_append, List.append_nil]); (repeat (first | exact Go.Sx.Sub.refl _ | exact Go.Sx.Sub.nil _ | (apply Go.Sx.sub_pick; (repeat (first | exact Go.Sx.Has.here | apply Go.Sx.Has.there)); skip) | apply Go.Sx.Sub.drop))) (hD : n.D = [] := by rfl) :
    Out P n W0 (bodyPostV P fn (RetOkG Post R)) F H L .ret [] := ⟨fun a w hF hS => retG hfn hr hv hp hs hD a w hF hS _ (.inr rfl)⟩
theorem endG {fn : Func} {Post : Value → GW → Heap → List HProp → Prop} {R : List HProp} {rs : List ResultVar} {vs : List Value} {v : Value} (B : List HProp) (hp : Post v W0 H B) (hfn : fn.results = rs.toArray := by rfl)
    (hr : ResR P F L rs vs := by repeat (first | exact Go.Sx.ResR.nil | (apply Go.Sx.ResR.tmp; (exact rfl)) | (apply Go.Sx.ResR.cell1; (exact inferInstance); (exact rfl); (repeat (first | exact Go.Sx.Has.here | apply Go.Sx.Has.there)); (exact rfl)) | (apply Go.Sx.ResR.cellN; (exact inferInstance); (exact inferInstance); (exact rfl); (repeat (first | exact Go.Sx.Has.here | apply Go.Sx.Has.there)); (exact Go.Sx.pickC_pick rfl))))
    (hv : tup vs = v := by first | exact Go.Sx.tup_one | exact Go.Sx.tup_many | rfl)
    (hs : Sub L (B ++ R) := by (try dsimp only [List.nil_append, List.cons_append, List.append_nil]); (repeat (first | exact Go.Sx.Sub.refl _ | exact Go.Sx.Sub.nil _ | (apply Go.Sx.sub_pick; (repeat (first | exact Go.Sx.Has.here | apply Go.Sx.Has.there)); skip) | apply Go.Sx.Sub.drop))) (hD : n.D = [] := by rfl) :
    Out P n W0 (bodyPostV P fn (RetOkG Post R)) F H L .normal [] := ⟨fun a w hF hS => retG hfn hr hv hp hs hD a w hF hS _ (.inl rfl)⟩
theorem opG_call {f : FuncId} {l : List Operand} {at_ : Array TypeId} {vs : List Value} {A R : List HProp} {Post : Value → GW → Heap → List HProp → Prop} [hf : TFn P f] (ha : opvs F l = some vs)
    (hs : CtG P f vs.toArray W0 H A Post) (ht : Take L A R) (hk : ∀ r W1 H' B, Post r W1 H' B → K r W1 H' (B ++ R)) :
    OpG P n W0 ⟨dst, .call ⟨.value (.func f), l.toArray, at_⟩, ty, pos, aft, g⟩ F H L K := by
  intro a w next Q hF hS hn
  have hm := (opvs_args ha).eval hF
  refine wpV_of_yV (callV_of (f := f) (args := vs.toArray) (fun w => ?_) (fun w => ?_) (CallsV.mono (hs w R (hS.sub ht.to)) ?_))
  · simp only [execOp, resolve, Act.eval]
    simp [Deferred.ofValue, invoke, hf.run, hm]
  · simp only [execOp, resolve, Act.eval]
    simp [Deferred.ofValue, invoke, hm, hf.events]
  · rintro e w' ⟨r, W1, H', B, rfl, hp, hs'⟩
    exact ⟨r, rfl, hn r W1 H' (B ++ R) w' (hk r W1 H' B hp) hs'⟩
theorem ex_opn {code : Code} {cty : TypeId} {ech wg : Nat} {L1 L2 LB L' : List HProp} (hs : W0.s = .solo) (h1 : Has L (pt ech (.chan 0 #[] false 0 0 false)) L1) (h2 : Has L1 (pt wg (wgBlock cty 0 0)) L2) (ht : Take L2 LB L')
    (hk : ∀ hB, big LB hB → Disj H hB → Bnd (union H hB) → union H hB ech = none → union H hB wg = none → Ex P n (setS W0 (.co ⟨cty, ech, wg, union H hB, Heap.empty, false, false, [], .run⟩)) Q F Heap.empty L' code k) : Ex P n W0 Q F H L code k := ⟨by
  intro a w hF hS Wr hsm b kk cs hb hc
  have hws : w.s = .solo := hS.sh.trans hs
  obtain ⟨hE, x1, e1, r1, d1, dH1, dH1r, l1, l1r⟩ := (hS.sub h1.to).parts
  obtain ⟨hW, x2, e2, r2, d2, l2, l2r⟩ := h2.to _ r1
  obtain ⟨hB, hL, e3, r3, d3, l3, l3r⟩ := big_app (ht.to _ r2)
  have em1 : hp w.toWorld ech = some (.chan 0 #[] false 0 0 false) := l1 _ _ e1
  have em2 : hp w.toWorld wg = some (wgBlock cty 0 0) := l1r _ _ (l2 _ _ e2)
  have offE : ∀ {y : Heap}, y.le x1 → y ech = none := fun {y} hy => by
    rcases d1 ech with h | h
    · rw [show hE ech = _ from e1] at h; cases h
    · cases hh : y ech with
      | none => rfl
      | some o => rw [hy _ _ hh] at h; cases h
  have offW : ∀ {y : Heap}, y.le x2 → y wg = none := fun {y} hy => by
    rcases d2 wg with h | h
    · rw [show hW wg = _ from e2] at h; cases h
    · cases hh : y wg with
      | none => rfl
      | some o => rw [hy _ _ hh] at h; cases h
  have HE : H ech = none := by
    rcases dH1 ech with h | h
    · exact h
    · rw [show hE ech = _ from e1] at h; cases h
  have HW : H wg = none := by
    rcases dH1r wg with h | h
    · exact h
    · rw [l2 _ _ e2] at h; cases h
  have dHB : Disj H hB := (dH1r.symm.mono (l3.trans l2r)).symm
  have dHL : Disj H hL := (dH1r.symm.mono (l3r.trans l2r)).symm
  have hbase : (union H hB).le (hp w.toWorld) := union_le hS.ro (l3.trans (l2r.trans l1r))
  have hml : hL.le (hp w.toWorld) := l3r.trans (l2r.trans l1r)
  have uE : union H hB ech = none := by simp [union, HE, offE (l3.trans l2r)]
  have uW : union H hB wg = none := by simp [union, HW, offW l3]
  have hd : Disj hL (union H hB) := (disj_union dHL d3).symm
  obtain ⟨w', q1, q2⟩ := stG_make hS hsm (m := hL) (.co ⟨cty, ech, wg, union H hB, Heap.empty, false, false, [], .run⟩) ((bnd_hp _).le hml) (H' := Heap.empty) (L' := L') (fun _ _ h => by cases h)
    ⟨hL, r3, .refl _, fun _ => .inl rfl⟩ (disj_join hd fun _ => .inr rfl)
  refine MI.special (sb_mono P Wr) ?_
  unfold xw
  rw [hws]
  refine SP.opn (m' := hL) (c := ⟨cty, ech, wg, union H hB, Heap.empty, false, false, [], .run⟩) rfl rfl rfl rfl rfl rfl hml hbase hd em1 em2 (offE (l3r.trans l2r)) (offW l3r) uE uW ?_
  rw [q1.eq]
  exact (hk hB e3 dHB ((bnd_hp _).le hbase) uE uW).run a w' hF q2 Wr q1.sm b kk cs hb hc⟩
theorem ex_back {code : Code} {c : Co} {H0 hB : Heap} {LB : List HProp} (hs : W0.s = .co c) (hst : c.st = .done) (hw : c.win = Heap.empty) (hbs : c.base = union H0 hB) (hB' : big LB hB) (hdB : Disj H0 hB) (hbn : Bnd c.base)
    (hk : Ex P n (setS W0 .solo) Q F H0 (LB ++ L) code k) : Ex P n W0 Q F H L code k := ⟨by
  intro a w hF hS Wr hsm b kk cs hb hc
  have hws : w.s = .co c := hS.sh.trans hs
  have hdj : Disj (hp w.toWorld) c.base := by have := hS.dj; rw [hs] at this; exact disj_of_join_left this
  obtain ⟨y, y1, y2, y3⟩ := hS.own
  have hle : hB.le c.base := by rw [hbs]; exact le_union_right hdB
  have hle0 : H0.le c.base := by rw [hbs]; exact le_union_left _ _
  have hyb : Disj y c.base := hdj.mono y2
  obtain ⟨w', q1, q2⟩ := stG_make hS hsm (m := join (hp w.toWorld) c.base) .solo ((bnd_hp _).join hbn) (H' := H0) (L' := LB ++ L) (hle0.trans (le_join_right hdj))
    ⟨union hB y, big_two hB' y1 (hyb.symm.mono hle) (le_union_left _ _) (le_union_right (hyb.symm.mono hle)), union_le (hle.trans (le_join_right hdj)) (y2.trans (le_join_left _ _)), (disj_union hdB.symm ((hyb.symm.mono hle0).symm)).symm⟩ (fun _ => .inr rfl)
  refine MI.special (sb_mono P Wr) ?_
  unfold xw
  rw [hws]
  refine SP.back rfl hst ?_
  rw [q1.eq]
  exact hk.run a w' hF q2 Wr q1.sm b kk cs hb hc⟩
def KidOk (P : Program) (W0 : GW) (d : Deferred) (q : Cs) : Prop := ∀ Wr : BW, Wr.os = W0.os → Wr.tape = W0.tape → Wr.post = W0.post → MI P kd Wr.toWorld (SB P Wr) (born P d) ⟨Heap.empty, .snd q⟩
theorem opG_go {c : Co} {x : Operand} {at_ : Array TypeId} {f : FuncId} {cap : Array Value} {ch : Nat} {ys : List Value} {L1 LD L' : List HProp} (hs : W0.s = .co c) (hlen : c.snd.length + 2 < 2147483648) (hst : c.st = .pend) (hwn : c.wn = false) (hsh : c.shut = false)
    (hx : opv F x = some (.func (.func f) #[] cap)) (hh : Has L (pt ch (.chan 0 #[] false 0 0 false)) L1) (ht : Take L1 LD L') (hH : H = Heap.empty)
    (hk : ∀ D, big LD D → Bnd D → Disj c.base D → D ch = none → c.base ch = none → KidOk P W0 { target := .fn (.func f) cap, args := #[] } ⟨c.ty, c.ech, c.wg, c.base, D, ch, ys, true, false, false⟩ ∧
      K undef (setS W0 (.co { c with st := .run, win := D, wn := true, snd := c.snd ++ [⟨ch, ys⟩] })) H L') :
    OpG P n W0 ⟨dst, .go ⟨.value x, #[], at_⟩, ty, pos, aft, g⟩ F H L K := by
  intro a w next Q hF hS hn Wr hsm ops j rest b kk cs ho hw hb hc
  subst hH
  have hws : w.s = .co c := hS.sh.trans hs
  have hdj : Disj (hp w.toWorld) c.base := by have := hS.dj; rw [hs] at this; exact disj_of_join_left this
  obtain ⟨hC, x1, e1, r1, d1, _, _, l1, l1r⟩ := (hS.sub hh.to).parts
  obtain ⟨hD, hL, e3, r3, d3, l3, l3r⟩ := big_app (ht.to _ r1)
  have em : hp w.toWorld ch = some (.chan 0 #[] false 0 0 false) := l1 _ _ e1
  have off : ∀ {y : Heap}, y.le x1 → y ch = none := fun {y} hy => by
    rcases d1 ch with h | h
    · rw [show hC ch = _ from e1] at h; cases h
    · cases hh : y ch with
      | none => rfl
      | some o => rw [hy _ _ hh] at h; cases h
  have hbc : c.base ch = none := by
    rcases hdj ch with h | h
    · rw [em] at h; cases h
    · exact h
  have hDb : Disj c.base hD := (hdj.mono (l3.trans l1r)).symm
  obtain ⟨hkid, hkk⟩ := hk hD e3 ((bnd_hp _).le (l3.trans l1r)) hDb (off l3) hbc
  have hrun : ∀ w1, (execOp a.eval ⟨dst, .go ⟨.value x, #[], at_⟩, ty, pos, aft, g⟩).run P w1 = .ok (.spawn { target := .fn (.func f) cap, args := #[] }) w1 := fun w1 => by
    simp [execOp, resolve, hF.opv hx, Deferred.ofValue]
  have hev : ∀ w1, (execOp a.eval ⟨dst, .go ⟨.value x, #[], at_⟩, ty, pos, aft, g⟩).events P w1 #[] = #[] := fun w1 => by
    simp [execOp, resolve, hF.opv hx, Deferred.ofValue]
  obtain ⟨w', q1, q2⟩ := stG_make hS hsm (m := hL) (.co { c with st := .run, win := hD, wn := true, snd := c.snd ++ [⟨ch, ys⟩] }) ((bnd_hp _).le (l3r.trans l1r)) (H' := Heap.empty) (L' := L') (fun _ _ h => by cases h)
    ⟨hL, r3, .refl _, fun _ => .inl rfl⟩ (disj_join (hdj.mono (l3r.trans l1r)) d3.symm)
  refine MI.special (sb_mono P Wr) ?_
  unfold xw
  rw [hws]
  refine SP.go (m' := hL) (D := hD) (ch := ch) (ys := ys) hlen hst hwn hsh rfl rfl (fun w1 he hl => by rw [stepG_spawn ho hw hb (hrun w1) rfl, listed_nil (hev w1)]) (l3r.trans l1r) (l3.trans l1r) d3.symm em (off l3r) (off l3) ?_ ?_
  · exact hkid Wr (hsm.os.trans hS.st.env.os) (hsm.tape.trans hS.st.env.tape) (hsm.post.trans hS.ps)
  · exact hc _ _ ⟨w', q1, hn _ _ _ _ _ hkk q2⟩
end
end Go.X
namespace Go.X
open Go Go.Sx Go.Conc Go.ConcN
open Go.ConcR (KK wgBlock WgAt stA smA rd wr mk)
structure IsExt (P : Program) (f : FuncId) (fn : Func) : Prop where
  get : P.funcs[f]? = some fn
  name : (fn.name == "runtime.NumGoroutine") = false
  body : fn.body.isNone = true
  next : Extern.findNext fn = none
class TMark (P : Program) (f : FuncId) (μ : outParam Mark) : Prop where
  ex : ∃ fn, IsExt P f fn ∧ Extern.find fn = some (fun _ => do mark μ; pure Extern.Race.none_) ∧ ∀ g, μ ≠ .extern g
class TMarkAt (P : Program) (f : FuncId) (μ : outParam (Addr → Mark)) : Prop where
  ex : ∃ fn, IsExt P f fn ∧ Extern.find fn = some (Extern.Race.marked μ) ∧ ∀ a g, μ a ≠ .extern g
class TAtLoad (P : Program) (f : FuncId) : Prop where
  ex : ∃ fn, IsExt P f fn ∧ Extern.find fn = some (Extern.Atomic.loadT (.int .u64))
class TAtAdd (P : Program) (f : FuncId) : Prop where
  ex : ∃ fn, IsExt P f fn ∧ Extern.find fn = some (Extern.Atomic.update (Op.intArith .add) .u64 true)
class TAtCas (P : Program) (f : FuncId) : Prop where
  ex : ∃ fn, IsExt P f fn ∧ Extern.find fn = some (Extern.Atomic.casT (.int .u64))
class TSemA (P : Program) (f : FuncId) : Prop where
  ex : ∃ fn, IsExt P f fn ∧ Extern.find fn = some Extern.Sync.semacquire
class TConst (P : Program) (f : FuncId) (v : outParam Value) : Prop where
  ex : ∃ fn, IsExt P f fn ∧ Extern.find fn = some (fun _ => pure v)
section
variable {ty : TypeId} {wg : Nat} {w : World} {st sm : Int}
theorem wg_st (h : WgAt ty wg w st sm) : w.cell? (stA wg) = some (.int .u64 st) := by
  unfold WgAt at h; simp [World.cell?, stA, h, wgBlock]
theorem wg_sm (h : WgAt ty wg w st sm) : w.cell? (smA wg) = some (.int .u32 sm) := by
  unfold WgAt at h; simp [World.cell?, smA, h, wgBlock]
theorem wg_fzst (h : WgAt ty wg w st sm) : w.frozen? (stA wg) = false := by
  unfold WgAt at h; simp [World.frozen?, stA, h, wgBlock]
theorem wg_fzsm (h : WgAt ty wg w st sm) : w.frozen? (smA wg) = false := by
  unfold WgAt at h; simp [World.frozen?, smA, h, wgBlock]
end
section
variable {q : Bool} {P : Program} {n : NF} {W0 : GW} {Q : Exit → Act → GW → Prop} {F : Slots} {H : Heap} {L : List HProp} {ops : Array Oper} {rest : List Oper} {k : List Fr} {op : Op} {ty : TypeId} {pos : String} {aft : Array Edge} {d : Tmp} {dst : Option Tmp} {g : Option (Nat × Bool)} {K : Value → GW → Heap → List HProp → Prop}
theorem hat_turn {Wr : BW} {w : GW} {c c' : Co} {a' : Act} {next : Act → GW → Prop} (hS : StG W0 H w L) (hsm : Sm Wr w) (hs : W0.s = .co c) (hp' : pool (.co c') = pool (.co c)) (hn : ∀ w', StG (setS W0 (.co c')) H w' L → next a' w') :
    Hat Wr next a' ⟨hp w.toWorld, .co c'⟩ := by
  obtain ⟨w', q1, q2⟩ := stG_make hS hsm (m := hp w.toWorld) (.co c') (bnd_hp _) hS.ro hS.own (by rw [hp', ← hs]; exact hS.dj)
  exact ⟨w', q1, hn w' q2⟩
theorem opG_mark {c : Co} {st : Stg} {f : FuncId} {ags : Array Operand} {at_ : Array TypeId} {μ : Mark} [ht : TMark P f μ] (hs : W0.s = .co c) (hm : Marks c μ st) (hk : K (.tuple #[]) (setS W0 (.co { c with st := st })) H L) :
    OpG P n W0 ⟨dst, .call ⟨.value (.func f), ags, at_⟩, ty, pos, aft, g⟩ F H L K := by
  intro a w next Q hF hS hn Wr hsm ops j rest b kk cs ho hw hb hc
  have hws : w.s = .co c := hS.sh.trans hs
  obtain ⟨fn, hx, hf, hne⟩ := ht.ex
  refine MI.special (sb_mono P Wr) ?_
  unfold xw
  rw [hws]
  refine SP.mark hm rfl (fun w1 he hl hwg => stepG_mark0 μ hne ho hw hb rfl hx.get hx.name hx.body hx.next hf) ?_
  exact hc _ _ (hat_turn hS hsm hs rfl fun w' h => hn _ _ _ _ _ hk h)
theorem opG_markAt {c : Co} {st : Stg} {f : FuncId} {x : Operand} {at_ : Array TypeId} {μ : Addr → Mark} {ad : Addr} [ht : TMarkAt P f μ] (hs : W0.s = .co c) (hx : opv F x = some (.pointer (some ad))) (hm : Marks c (μ ad) st) (hk : K (.tuple #[]) (setS W0 (.co { c with st := st })) H L) :
    OpG P n W0 ⟨dst, .call ⟨.value (.func f), #[x], at_⟩, ty, pos, aft, g⟩ F H L K := by
  intro a w next Q hF hS hn Wr hsm ops j rest b kk cs ho hw hb hc
  have hws : w.s = .co c := hS.sh.trans hs
  obtain ⟨fn, he, hf, hne⟩ := ht.ex
  refine MI.special (sb_mono P Wr) ?_
  unfold xw
  rw [hws]
  refine SP.mark hm rfl (fun w1 _ hl hwg => stepG_markAt μ hne ho hw hb rfl he.get he.name he.body he.next hf (by simp [hF.opv hx])) ?_
  exact hc _ _ (hat_turn hS hsm hs rfl fun w' h => hn _ _ _ _ _ hk h)
theorem opG_load {c : Co} {m : Nat} {f : FuncId} {x : Operand} {at_ : Array TypeId} [ht : TAtLoad P f] (hs : W0.s = .co c) (hst : c.st = .w0 m) (hx : opv F x = some (.pointer (some (stA c.wg))))
    (h0 : K (.int .u64 0) (setS W0 (.co { c with st := .fin })) H L) (h1 : ∀ v : Nat, v ≤ m → v ≠ 0 → K (.int .u64 (v * KK)) (setS W0 (.co { c with st := .w1 v })) H L) :
    OpG P n W0 ⟨dst, .call ⟨.value (.func f), #[x], at_⟩, ty, pos, aft, g⟩ F H L K := by
  intro a w next Q hF hS hn Wr hsm ops j rest b kk cs ho hw hb hc
  have hws : w.s = .co c := hS.sh.trans hs
  obtain ⟨fn, he, hf⟩ := ht.ex
  refine MI.special (sb_mono P Wr) ?_
  unfold xw
  rw [hws]
  refine SP.load hst rfl fun v w1 hv _ hl hwg => ⟨_, stepG_load_atomic ho hw hb rfl he.get he.name he.body he.next .u64 hf (hF.opv hx) (wg_st hwg), fun e => ?_, fun e => ?_⟩
  · subst e
    refine hc _ _ (hat_turn hS hsm hs rfl fun w' h => ?_)
    have := hn _ _ _ _ _ h0 h
    simpa using this
  · exact hc _ _ (hat_turn hS hsm hs rfl fun w' h => hn _ _ _ _ _ (h1 v hv e) h)
theorem opG_load0 {c : Co} {f : FuncId} {x : Operand} {at_ : Array TypeId} [ht : TAtLoad P f] (hs : W0.s = .co c) (hst : c.st = .up) (hx : opv F x = some (.pointer (some (stA c.wg))))
    (h0 : K (.int .u64 0) (setS W0 (.co { c with st := .fin })) H L) :
    OpG P n W0 ⟨dst, .call ⟨.value (.func f), #[x], at_⟩, ty, pos, aft, g⟩ F H L K := by
  intro a w next Q hF hS hn Wr hsm ops j rest b kk cs ho hw hb hc
  have hws : w.s = .co c := hS.sh.trans hs
  obtain ⟨fn, he, hf⟩ := ht.ex
  refine MI.special (sb_mono P Wr) ?_
  unfold xw
  rw [hws]
  refine SP.load0 hst rfl fun w1 _ hl hwg => ⟨_, stepG_load_atomic ho hw hb rfl he.get he.name he.body he.next .u64 hf (hF.opv hx) (wg_st hwg), ?_⟩
  exact hc _ _ (hat_turn hS hsm hs rfl fun w' h => hn _ _ _ _ _ h0 h)
theorem wrap_count {v : Nat} (hv : v < 2147483648) : IntKind.u64.wrap ((v : Int) * KK + KK) = ((v + 1 : Nat) : Int) * KK := by
  rw [IntKind.wrap_u64]; simp only [KK]; push_cast; omega
theorem opG_add {c : Co} {f : FuncId} {x y : Operand} {at_ : Array TypeId} [ht : TAtAdd P f] (hs : W0.s = .co c) (hst : c.st = .off) (hlen : c.snd.length < 2147483648) (hx : opv F x = some (.pointer (some (stA c.wg)))) (hy : opv F y = some (.int .u64 4294967296))
    (h1 : ∀ v : Nat, v ≤ c.snd.length → K (.int .u64 ((v + 1 : Nat) * KK)) (setS W0 (.co { c with st := .adm })) H L) :
    OpG P n W0 ⟨dst, .call ⟨.value (.func f), #[x, y], at_⟩, ty, pos, aft, g⟩ F H L K := by
  intro a w next Q hF hS hn Wr hsm ops j rest b kk cs ho hw hb hc
  have hws : w.s = .co c := hS.sh.trans hs
  obtain ⟨fn, he, hf⟩ := ht.ex
  refine MI.special (sb_mono P Wr) ?_
  unfold xw
  rw [hws]
  refine SP.add hst rfl fun v w1 hv _ hl hwg => ?_
  have hstep := stepG_add_atomic (P := P) (main := true) (kk := kk) (cs := cs) (rest := rest) ho hw hb rfl he.get he.name he.body he.next .u64 hf (hF.opv hx) (hF.opv hy) (wg_st hwg) (wg_fzst hwg)
  rw [show (4294967296 : Int) = KK from rfl, wrap_count (by omega)] at hstep
  exact ⟨_, hstep, hc _ _ (hat_turn hS hsm hs rfl fun w' h => hn _ _ _ _ _ (h1 v hv) h)⟩
theorem opG_cas {c : Co} {u : Nat} {f : FuncId} {x y z : Operand} {at_ : Array TypeId} {e1 e2 : Int} [ht : TAtCas P f] (hs : W0.s = .co c) (hst : c.st = .w1 u) (hx : opv F x = some (.pointer (some (stA c.wg)))) (hy : opv F y = some (.int .u64 e1)) (hz : opv F z = some (.int .u64 e2))
    (q1 : e1 = u * KK) (q2 : e2 = u * KK + 1)
    (h1 : K (.bool true) (setS W0 (.co { c with st := .reg })) H L) (h0 : ∀ v : Nat, v < u → K (.bool false) (setS W0 (.co { c with st := .w0 v })) H L) :
    OpG P n W0 ⟨dst, .call ⟨.value (.func f), #[x, y, z], at_⟩, ty, pos, aft, g⟩ F H L K := by
  intro a w next Q hF hS hn Wr hsm ops j rest b kk cs ho hw hb hc
  have hws : w.s = .co c := hS.sh.trans hs
  obtain ⟨fn, he, hf⟩ := ht.ex
  subst q1 q2
  refine MI.special (sb_mono P Wr) ?_
  unfold xw
  rw [hws]
  refine SP.cas hst rfl fun v w1 hv _ hl hwg => ⟨fun e => ?_, fun e => ?_⟩
  · subst e
    exact ⟨_, stepG_cas_hit ho hw hb rfl he.get he.name he.body he.next .u64 hf (hF.opv hx) (hF.opv hy) (hF.opv hz) (wg_st hwg) (wg_fzst hwg), hc _ _ (hat_turn hS hsm hs rfl fun w' h => hn _ _ _ _ _ h1 h)⟩
  · exact ⟨_, stepG_cas_miss ho hw hb rfl he.get he.name he.body he.next .u64 hf (hF.opv hx) (hF.opv hy) (hF.opv hz) (wg_st hwg) (wg_fzst hwg) (by simp only [KK]; omega), hc _ _ (hat_turn hS hsm hs rfl fun w' h => hn _ _ _ _ _ (h0 v (by omega)) h)⟩
theorem opG_sem {c : Co} {f : FuncId} {x y : Operand} {at_ : Array TypeId} [ht : TSemA P f] (hs : W0.s = .co c) (hst : c.st = .reg) (hx : opv F x = some (.pointer (some (smA c.wg))))
    (h1 : K (.tuple #[]) (setS W0 (.co { c with st := .up })) H L) :
    OpG P n W0 ⟨dst, .call ⟨.value (.func f), #[x, y], at_⟩, ty, pos, aft, g⟩ F H L K := by
  intro a w next Q hF hS hn Wr hsm ops j rest b kk cs ho hw hb hc
  have hws : w.s = .co c := hS.sh.trans hs
  obtain ⟨fn, he, hf⟩ := ht.ex
  have ha : ((#[x, y] : Array Operand).map a.eval)[0]? = some (.pointer (some (smA c.wg))) := by simp [hF.opv hx]
  refine MI.special (sb_mono P Wr) ?_
  unfold xw
  rw [hws]
  refine SP.sem hst rfl rfl (fun w1 st _ hl hwg => stepG_semacquire_wait ho hw rfl he.get he.name he.body he.next hf ha (wg_sm hwg)) fun w1 _ hl hwg => ⟨_, ?_, hc _ _ (hat_turn hS hsm hs rfl fun w' h => hn _ _ _ _ _ h1 h)⟩
  exact stepG_semacquire ho hw hb rfl he.get he.name he.body he.next hf ha (wg_sm hwg) (by decide) (wg_fzsm hwg)
theorem stepG_ext_pure {main : Bool} {b : Frame} {a : Act} {kk : List Item} {cs : List Frame} {w : World} {opsA : Array Oper} {i : Nat} {restN : List Nat} {o : Oper} {f : FuncId} {ags : Array Operand} {ats : Array TypeId} {fn : Func} {v : Value}
    (ho : opsA[i]? = some o) (hw : Region.wanted o (yielded opsA a.tmps) = true) (hk : b.kind ≠ .early) (hop : o.op = .call { callee := .value (.func f), args := ags, argTypes := ats }) (hx : IsExt P f fn) (he : Extern.find fn = some (fun _ => pure v)) :
    stepG P main (G (b.at a (.inRegion opsA (i :: restN) :: kk)) cs) w = .go (G (b.at (a.put o.dst v) (.inRegion opsA restN :: kk)) cs) w #[] :=
  stepG_entry ho hw hk hop hx.get hx.name hx.body hx.next he (by simp) (by simp) (by intro x h; simp at h)
theorem op_const {f : FuncId} {ags : Array Operand} {at_ : Array TypeId} {v : Value} [ht : TConst P f v] (hk : K v W0 H L) :
    OpG P n W0 ⟨dst, .call ⟨.value (.func f), ags, at_⟩, ty, pos, aft, g⟩ F H L K := by
  intro a w next Q hF hS hn Wr hsm ops j rest b kk cs ho hw hb hc
  obtain ⟨fn, hx, he⟩ := ht.ex
  refine .own ⟨rfl, fun w1 _ hl _ => ⟨_, w1, #[], _, stepG_ext_pure ho hw hb rfl hx he, .refl _ _, hl, fun _ hb => .inl hb, ?_⟩⟩
  exact hc _ _ ⟨w, rep_xw hsm, hn _ _ _ _ _ hk hS⟩
end
end Go.X
