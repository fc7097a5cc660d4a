/- A hand's life: it asks, plans, gives. -/
import Derived.Test.YtafhinjggdknjaaDoorPLF
import Derived.Test.YtafhinjggdknjaaDoorPMA
import Derived.Test.YtafhinjggdknjaaDoorPPA
import Derived.Test.YtafhinjggdknjaaDoorPPJ
import Derived.Test.YtafhinjggdknjaaDoorPZN
set_option linter.unusedVariables false
set_option linter.unusedSimpArgs false
namespace Go.Proofs.YtafhinjggdknjaaDoor
open Go Go.Sx Go.X Go.Proofs
theorem slr_take {α : Type} {R : Rd α} {sz : Nat} [RdOk R sz] {H : Heap} {base : Option Addr} {m cap k : Nat} {xs : List α} (hr : SlR R sz H (.slice base m cap) xs) (h : k ≤ xs.length) : SlR R sz H (.slice base k cap) (xs.take k) := by
  obtain ⟨cs, ⟨base', cap', e, hc, hl, h1c, he⟩, b⟩ := hr
  cases e
  have hk : (xs.take k).length = k := by simp; omega
  have hmul : k * sz ≤ xs.length * sz := Nat.mul_le_mul_right _ h
  refine ⟨cs.take (k * sz), hk.symm ▸ ⟨_, _, rfl, by omega, by rw [List.length_take, hl]; omega, ?_, ?_⟩, b.take h⟩
  · simp only [List.all_eq_true] at h1c ⊢
    exact fun u hu => h1c u (List.mem_of_mem_take hu)
  · rcases he with he | ⟨b, off, rfl, hrow⟩
    · exact .inl (by omega)
    · exact .inr ⟨b, off, rfl, hrow.take⟩
def hasP (m : Map) (j : Job) : Prop := lookV m j = 0 ∧ (planT m j.Taken j.Goal (j.N - 1).toNat j.Tick j.Cell).isSome = true
instance {m : Map} {j : Job} : Decidable (hasP m j) := by unfold hasP; infer_instance
def planRt (m : Map) (j : Job) : Route := if hasP m j then ⟨j.Tick, planP m j.Taken j.Goal (j.N - 1).toNat j.Tick j.Cell⟩ else ⟨0, []⟩
def planC (m : Map) (j : Job) : Int := if lookV m j ≠ 0 then lookV m j else if hasP m j then 0 else 180
def PlanR (m : Map) (j : Job) (r : Value) (H' : Heap) (B : List HProp) : Prop := ∃ v, r = .tuple #[.agg [I (planRt m j).Start, v].toArray, I (planC m j)] ∧ B = [ownS rInt 1 8 3 H' v (planRt m j).Cells]
theorem plan_any {W0 : GW} {H : Heap} {p : Value} {c : List Value} {m : Map} {j : Job} (hT : TabH Tryd.prog H) (h : rG W0 H p m) (h0 : rJob H c j) (hl : j.Taken.length ≤ 100) :
    Ct Tryd.prog 9 #[p, .agg c.toArray] W0 H [] (PlanR m j) := by
  intro w R hS
  refine CallsV.mono (plan_spec hT h h0 hl w R hS) fun e w' ⟨r, H', B, h1, h2, h3, h4⟩ => ?_
  rcases h3 with ⟨a, rfl, rfl⟩ | ⟨a, b, rfl, rfl⟩ | ⟨a, b, v, rfl, rfl⟩
  · have hn : ¬ hasP m j := fun e => a e.1
    exact ⟨_, _, _, h1, h2, ⟨nilS, by simp only [planRt, planC]; rw [if_neg hn, if_pos a], by simp only [planRt]; rw [if_neg hn]⟩, h4.sub (ownS_nil (R := rInt) (sz := 1) (w := 8) (T := 3) (H := H') (base := none))⟩
  · have hn : ¬ hasP m j := fun e => by have := e.2; rw [b] at this; cases this
    exact ⟨_, _, _, h1, h2, ⟨nilS, by simp only [planRt, planC]; rw [if_neg hn, if_neg (fun e => e a), if_neg hn], by simp only [planRt]; rw [if_neg hn]⟩, h4.sub (ownS_nil (R := rInt) (sz := 1) (w := 8) (T := 3) (H := H') (base := none))⟩
  · have hn : hasP m j := ⟨a, b⟩
    exact ⟨_, _, _, h1, h2, ⟨v, by simp only [planRt, planC]; rw [if_pos hn, if_neg (fun e => e a), if_pos hn], by simp only [planRt]; rw [if_pos hn]⟩, h4⟩
def clipJ (j : Job) : Job := ⟨j.Cell, j.Tick, j.Goal, j.N, j.Taken.take 60⟩
theorem clipJ2 {j : Job} : clipJ (clipJ j) = clipJ j := by simp [clipJ, List.take_take]
theorem own18_spec {W0 : GW} {H : Heap} {c : List Value} {j : Job} (h0 : rJob H c j) :
    Ct Tryd.prog 7 #[.agg c.toArray] W0 H [] (fun r H' B => ∃ s, r = .agg ((clipJ j).cv s).toArray ∧ B = [ownS rStr 1 16 9 H s (clipJ j).Taken] ∧ H' = H) := by
  refine Ct.go (vs := [.agg c.toArray]) fun R => ?_
  obtain ⟨s0, rfl, f1, f2, f3, f4, h0⟩ := h0
  obtain ⟨b0, c0, rfl, hc0, hd0⟩ := h0.1.shape
  have hk : (min (j.Taken.length : Int) 60).toNat = (clipJ j).Taken.length := by simp [clipJ]; omega
  have hs := slr_take (k := (clipJ j).Taken.length) h0.1 (by simp [clipJ]; omega)
  rw [show j.Taken.take (clipJ j).Taken.length = (clipJ j).Taken by simp [clipJ, List.take_take]] at hs
  refine walk ?_
  refine ops_box rfl rfl fun p1 _ => ?_
  refine ops_alloc rfl fun p2 _ => ?_
  refine walk ?_
  refine ops_mk0 (w := 16) rStr rfl fun b1 => ?_
  refine walk ?_
  rw [hk]
  refine ops_appS rfl rfl hs (by simp [clipJ, cap47]; omega) fun d1 e1 => ?_
  simp only [List.length_nil, Nat.zero_add, List.nil_append]
  refine walk ?_
  refine finB [ownS rStr 1 16 9 H (.slice d1 (clipJ j).Taken.length e1) (clipJ j).Taken] ?_
  exact ⟨_, rfl, rfl, rfl⟩
def jm : Map := ⟨3, 1, 1, []⟩
def ja : Job := ⟨0, 5, 2, 4, []⟩
def jb : Job := ⟨0, 5, 2, 4, [sb [99, 49, 64, 54]]⟩
theorem ja_plan : planRt jm ja = ⟨5, [0, 1, 2, 2]⟩ := by decide +kernel
theorem jb_plan : planRt jm jb = ⟨5, [0, 0, 1, 2]⟩ := by decide +kernel
theorem ja_code : planC jm ja = 0 := by decide +kernel
theorem jb_code : planC jm jb = 0 := by decide +kernel
theorem ints_lit {H : Heap} {p : Nat} {xs : List Int} (h : HRow H p 0 (xs.map I)) (hf : ∀ x ∈ xs, fits x) (hl : xs.length ≤ 1000) : SlB rInt 1 8 H (.slice (some ⟨p, 0, none⟩) xs.length xs.length) xs :=
  ⟨slr_of_hrow (xs := xs) h (RL.mk1 (R := rInt) (val := fun x => .int .i64 x) (ok := fits) (xs := xs) hf) (by omega) (by omega), by simp only [cap47]; omega⟩
theorem strs_lit {H : Heap} {p : Nat} {xs : List ByteArray} (h : HRow H p 0 (xs.map fun x => Value.string x)) (hf : ∀ x ∈ xs, x.size ≤ cap47) (hl : xs.length ≤ 1000) : SlB rStr 1 16 H (.slice (some ⟨p, 0, none⟩) xs.length xs.length) xs :=
  ⟨slr_of_hrow (xs := xs) h (RL.mk1 (R := rStr) (val := fun x => .string x) (ok := fun x => x.size ≤ cap47) (xs := xs) hf) (by omega) (by omega), by simp only [cap47]; omega⟩
theorem jm_reads {H : Heap} : rMap H [I 3, I 1, I 1, nilS] jm := ⟨_, rfl, by unfold fits jm; simp, by unfold fits jm; simp, by unfold fits jm; simp, SlB.nil⟩
theorem ja_reads {H : Heap} : rJob H [I 0, I 5, I 2, I 4, nilS] ja := ⟨_, rfl, by unfold fits ja; simp, by unfold fits ja; simp, by unfold fits ja; simp, by unfold fits ja; simp, SlB.nil⟩
theorem jb_reads {H : Heap} {p : Nat} (h : HRow H p 0 [.string (sb [99, 49, 64, 54])]) : rJob H [I 0, I 5, I 2, I 4, .slice (some ⟨p, 0, none⟩) 1 1] jb := ⟨_, rfl, by unfold fits jb; simp, by unfold fits jb; simp, by unfold fits jb; simp, by unfold fits jb; simp, strs_lit (xs := [sb [99, 49, 64, 54]]) h (by decide) (by simp)⟩
set_option maxHeartbeats 8000000 in
theorem awake18_spec {W0 : GW} {H : Heap} (hT : TabH Tryd.prog H) :
    Ct Tryd.prog 4 #[] W0 H [] (fun r H' B => r = .bool true ∧ B = []) := by
  refine Ct.go fun R => ?_
  refine walk ?_
  have hg0 := gNew_spec (W0 := W0) (jm_reads (H := H))
  refine ops_call rfl rfl hg0 fun r2 H2 B hl2 ⟨g, e, er, eB, h⟩ => ?_
  subst er eB
  obtain ⟨hg, hG, rfl⟩ : goodM jm ∧ rG W0 H2 g jm ∧ e = I 0 := by
    rcases h with h | h
    · exact h
    · exact absurd (by decide) h.1
  have hGp := hG
  obtain ⟨⟨b, s, mb, mm, rfl, _, _, _, _⟩, hgd, hfs⟩ := hGp
  refine walkG ?_
  have hp1 := plan_any (W0 := W0) (hT.mono hl2) hG (ja_reads (H := H2)) (by decide)
  rw [show PlanR jm ja = fun r H' B => ∃ v, r = .tuple #[.agg [I 5, v].toArray, I 0] ∧ B = [ownS rInt 1 8 3 H' v [0, 1, 2, 2]] by unfold PlanR; rw [ja_plan, ja_code]] at hp1
  refine ops_call rfl rfl hp1 fun r3 H3 B hl3 ⟨v3, er, eB⟩ => ?_
  subst er eB
  refine ops_freeze v3 fun H4 hl4 hv3 => ?_
  obtain ⟨b3, c3, rfl, _, _⟩ := hv3.1.shape
  refine walk ?_
  refine ops_alloc rfl fun p3 _ => ?_
  refine walk ?_
  refine ops_bsN rfl rfl fun pc _ => ?_
  refine ops_frzR .here fun H5 hl5 hr5 => ?_
  refine walk ?_
  have hp2 := plan_any (W0 := W0) (hT.mono (hl2.trans (hl3.trans (hl4.trans hl5)))) (hG.mono (hl3.trans (hl4.trans hl5))) (jb_reads hr5) (by decide)
  rw [show PlanR jm jb = fun r H' B => ∃ v, r = .tuple #[.agg [I 5, v].toArray, I 0] ∧ B = [ownS rInt 1 8 3 H' v [0, 0, 1, 2]] by unfold PlanR; rw [jb_plan, jb_code]] at hp2
  refine ops_call rfl rfl hp2 fun r6 H6 B hl6 ⟨v6, er, eB⟩ => ?_
  subst er eB
  refine ops_freeze v6 fun H7 hl7 hv6 => ?_
  obtain ⟨b6, c6, rfl, _, _⟩ := hv6.1.shape
  refine walk ?_
  refine ops_alloc rfl fun p4 _ => ?_
  refine walkG ?_
  refine ops_bsN rfl rfl fun pd _ => ?_
  refine ops_frzR .here fun H8 hl8 hr8 => ?_
  refine walkG ?_
  refine ops_pcall rfl rfl (ints_spec (hv3.mono (hl5.trans (hl6.trans (hl7.trans hl8)))).1 (ints_lit (xs := [0, 1, 2, 2]) hr8 (by simp [fits]) (by decide)).1) ?_
  rw [decide_eq_true (p := _ = _) rfl]
  refine walkG ?_
  refine ops_bsN rfl rfl fun pe _ => ?_
  refine ops_frzR .here fun H9 hl9 hr9 => ?_
  refine walkG ?_
  refine ops_pcall rfl rfl (ints_spec (hv6.mono (hl8.trans hl9)).1 (ints_lit (xs := [0, 0, 1, 2]) hr9 (by simp [fits]) (by decide)).1) ?_
  rw [decide_eq_true (p := _ = _) rfl]
  refine walkG ?_
  refine fin0 ?_
  exact ⟨rfl, rfl⟩
theorem clip_len {j : Job} : (clipJ j).Taken.length ≤ 60 := by simp [clipJ]; omega
end Go.Proofs.YtafhinjggdknjaaDoor
namespace Go.Proofs.YtafhinjggdknjaaDoor
open Go Go.Sx Go.X Go.Proofs
open Go.ConcR (KK wgBlock WgAt stA smA rd wr mk)
theorem uLoad_w0 {W0 : GW} {H : Heap} {c : Co} {m : Nat} (hs : W0.s = .co c) (hst : c.st = .w0 m) :
    CtG Tryd.prog 38 #[.pointer (some ⟨c.cy.wg, 0, none⟩)] W0 H [] (fun r W1 H' B => H' = H ∧ B = [] ∧ ((r = .int .u64 0 ∧ W1 = setS W0 (.co { c with st := .fin })) ∨ ∃ v : Nat, v ≤ m ∧ v ≠ 0 ∧ r = .int .u64 (v * KK) ∧ W1 = setS W0 (.co { c with st := .w1 v }))) := by
  refine CtG.go (vs := [_]) fun R => ?_
  refine walk ?_
  refine ops_g (opG_load hs hst rfl ?_ fun v h1 h2 => ?_)
  · refine walk ?_
    refine finG [] ?_
    exact ⟨rfl, rfl, .inl ⟨rfl, rfl⟩⟩
  · refine walk ?_
    refine finG [] ?_
    exact ⟨rfl, rfl, .inr ⟨v, h1, h2, rfl, rfl⟩⟩
theorem uLoad_up {W0 : GW} {H : Heap} {c : Co} (hs : W0.s = .co c) (hst : c.st = .up) :
    CtG Tryd.prog 38 #[.pointer (some ⟨c.cy.wg, 0, none⟩)] W0 H [] (fun r W1 H' B => H' = H ∧ B = [] ∧ r = .int .u64 0 ∧ W1 = setS W0 (.co { c with st := .fin })) := by
  refine CtG.go (vs := [_]) fun R => ?_
  refine walk ?_
  refine ops_g (opG_load0 hs hst rfl ?_)
  refine walk ?_
  refine finG [] ?_
  exact ⟨rfl, rfl, rfl, rfl⟩
theorem uAdd_off {W0 : GW} {H : Heap} {c : Co} (hs : W0.s = .co c) (hst : c.st = .off) (hlen : c.wk.length < 2147483648) :
    CtG Tryd.prog 36 #[.pointer (some ⟨c.cy.wg, 0, none⟩), .int .u64 4294967296] W0 H [] (fun r W1 H' B => H' = H ∧ B = [] ∧ ∃ v : Nat, v ≤ c.wk.length ∧ r = .int .u64 ((v + 1 : Nat) * KK) ∧ W1 = setS W0 (.co { c with st := .adm })) := by
  refine CtG.go (vs := [_, _]) fun R => ?_
  refine walk ?_
  refine ops_g (opG_add hs hst hlen rfl rfl fun v h1 => ?_)
  refine walk ?_
  refine finG [] ?_
  exact ⟨rfl, rfl, v, h1, rfl, rfl⟩
theorem uCas_w1 {W0 : GW} {H : Heap} {c : Co} {u : Nat} {e1 e2 : Int} (hs : W0.s = .co c) (hst : c.st = .w1 u) (q1 : e1 = u * KK) (q2 : e2 = u * KK + 1) :
    CtG Tryd.prog 44 #[.pointer (some ⟨c.cy.wg, 0, none⟩), .int .u64 e1, .int .u64 e2] W0 H [] (fun r W1 H' B => H' = H ∧ B = [] ∧ ((r = .bool true ∧ W1 = setS W0 (.co { c with st := .reg })) ∨ ∃ v : Nat, v < u ∧ r = .bool false ∧ W1 = setS W0 (.co { c with st := .w0 v }))) := by
  refine CtG.go (vs := [_, _, _]) fun R => ?_
  refine walk ?_
  refine ops_g (opG_cas hs hst rfl rfl rfl q1 q2 ?_ fun v h1 => ?_)
  · refine walk ?_
    refine finG [] ?_
    exact ⟨rfl, rfl, .inl ⟨rfl, rfl⟩⟩
  · refine walk ?_
    refine finG [] ?_
    exact ⟨rfl, rfl, .inr ⟨v, h1, rfl, rfl⟩⟩
end Go.Proofs.YtafhinjggdknjaaDoor
namespace Go.Proofs.YtafhinjggdknjaaDoor
open Go Go.Sx Go.X Go.Proofs Go.Conc
open Go.ConcR (KK wgBlock WgAt stA smA rd wr mk)
theorem wgAdd_spec {W0 : GW} {H : Heap} {c : Co} (hs : W0.s = .co c) (hst : c.st = .run) (hsh : c.shut = false) (hlen : c.wk.length + 2 < 2147483648) :
    CtG Tryd.prog 15 #[.pointer (some ⟨c.cy.wg, 0, none⟩), .int .i64 1] W0 H [] (fun r W1 H' B => H' = H ∧ B = [] ∧ r = .tuple #[] ∧ W1 = setS W0 (.co { c with st := .pend })) := by
  refine CtG.goMark (fe := 31) (vs := [_, _]) rfl fun R => ?_
  refine walk ?_
  refine ops_g (opG_mark hs (.off hst hsh) ?_)
  refine walk ?_
  refine ops_defer (vs := []) rfl ?_
  refine walk ?_
  refine ops_g (op_const ?_)
  refine walk ?_
  rw [show IntKind.u64.wrap (IntKind.u64.wrap 1 * 4294967296) = 4294967296 by decide]
  refine ops_g (opG_call (vs := [_, _]) (A := []) rfl (uAdd_off (c := { c with st := .off }) rfl rfl (by simp only; omega)) .nil fun r W1 H' B hh => ?_)
  obtain ⟨eH, eB, v, hv, rfl, rfl⟩ := hh
  subst eH eB
  have hv' : v + 1 < 2147483648 := by simp only at hv; omega
  have f1 := st_V hv'
  have f2 := st_bub hv'
  have f3 := st_wait hv'
  generalize hS : ((v + 1 : Nat) : Int) * KK = S at f1 f2 f3 ⊢
  have f4 : IntKind.u32.wrap (bits .and .u64 S 2147483647) = 0 := by rw [f3]; decide
  have f5 : IntKind.i32.wrap 1 = 1 := by decide
  refine walk ?_
  refine ex_if rfl (fun h => ?_) (fun h => ?_)
  · refine walk ?_
    refine ops_up (c := { c with st := .adm }) rfl rfl (by decide) ?_
    refine ops_g (opG_markAt (ad := smA c.cy.wg) (c := { c with st := .adm }) rfl rfl (.rd rfl) ?_)
    refine walk ?_
    refine outD (.inr rfl) rfl fun w hw => ⟨setS W0 (.co { c with st := .adm }), { c with st := .adm }, .pend, _, [], rfl, .on rfl, ⟨rfl, rfl, rfl, rfl⟩, hw⟩
  · refine walk ?_
    refine outD (.inr rfl) rfl fun w hw => ⟨setS W0 (.co { c with st := .adm }), { c with st := .adm }, .pend, _, [], rfl, .on rfl, ⟨rfl, rfl, rfl, rfl⟩, hw⟩
theorem wgWait_spec {W0 : GW} {H : Heap} {c : Co} (hs : W0.s = .co c) (hst : c.st = .run) (hsh : c.shut = true) (hlen : c.wk.length + 2 < 2147483648) :
    CtG Tryd.prog 18 #[.pointer (some ⟨c.cy.wg, 0, none⟩)] W0 H [] (fun r W1 H' B => H' = H ∧ B = [] ∧ r = .tuple #[] ∧ W1 = setS W0 (.co { c with st := .done })) := by
  refine CtG.go (vs := [_]) fun R => ?_
  refine walk ?_
  refine ops_g (opG_mark hs (.wait hst hsh) ?_)
  refine walk ?_
  refine ex_loopG (fun s : Nat => s ≤ c.wk.length) (fun s => setS W0 (.co { c with st := .w0 s })) (fun _ => [(0, .pointer (some ⟨c.cy.wg, 0, none⟩))]) (fun _ => H) (fun _ => R) (fun s => s) c.wk.length (Nat.le_refl _) fun m hm K hK => ?_
  refine walk ?_
  refine ops_g (opG_call (vs := [_]) (A := []) rfl (uLoad_w0 (c := { c with st := .w0 m }) rfl rfl) .nil fun r W1 H' B hh => ?_)
  obtain ⟨eH, eB, hh⟩ := hh
  subst eH eB
  rcases hh with ⟨rfl, rfl⟩ | ⟨v, hv, hv0, rfl, rfl⟩
  · have f1 : IntKind.i32.wrap (Int.fdiv 0 4294967296) = 0 := by decide
    have f2 : bits .and .u64 0 2147483647 = 0 := by decide
    have f3 : bits .and .u64 0 2147483648 = 0 := by decide
    have f4 : IntKind.u32.wrap (bits .and .u64 0 2147483647) = 0 := by decide
    refine walk ?_
    refine ops_g (opG_mark (c := { c with st := .fin }) rfl (.ke rfl) ?_)
    refine walk ?_
    refine ops_up (c := { c with st := .ke }) rfl rfl (by decide) ?_
    refine ops_g (opG_markAt (ad := stA c.cy.wg) (c := { c with st := .ke }) rfl rfl (.acq rfl) ?_)
    refine walk ?_
    refine finG [] ?_
    exact ⟨rfl, rfl, rfl, rfl⟩
  · have hv' : v < 2147483648 := by omega
    have f1 := st_V hv'
    have f2 := st_bub hv'
    have f3 := st_wait hv'
    have f6 : IntKind.u64.wrap ((v : Int) * KK + 1) = (v : Int) * KK + 1 := by rw [IntKind.wrap_u64]; simp only [KK]; omega
    generalize hS : (v : Int) * KK = S at f1 f2 f3 f6 ⊢
    have f4 : IntKind.u32.wrap (bits .and .u64 S 2147483647) = 0 := by rw [f3]; decide
    refine walk ?_
    refine ops_g (opG_call (vs := [_, _, _]) (A := []) rfl (uCas_w1 (c := { c with st := .w1 v }) (e1 := S) (e2 := IntKind.u64.wrap (S + 1)) rfl rfl hS.symm (by rw [f6, hS])) .nil fun r W1 H' B hh => ?_)
    obtain ⟨eH, eB, hh⟩ := hh
    subst eH eB
    rcases hh with ⟨rfl, rfl⟩ | ⟨v', hv1, rfl, rfl⟩
    · refine walk ?_
      refine ops_up (c := { c with st := .reg }) rfl rfl (by decide) ?_
      refine ops_g (opG_markAt (ad := smA c.cy.wg) (c := { c with st := .reg }) rfl rfl (.wr rfl) ?_)
      refine walk ?_
      refine ops_g (opG_sem (c := { c with st := .reg }) rfl rfl rfl ?_)
      refine walk ?_
      refine ops_g (opG_call (vs := [_]) (A := []) rfl (uLoad_up (c := { c with st := .up }) rfl rfl) .nil fun r W1 H' B hh => ?_)
      obtain ⟨eH, eB, rfl, rfl⟩ := hh
      subst eH eB
      refine walk ?_
      refine ops_g (opG_mark (c := { c with st := .fin }) rfl (.ke rfl) ?_)
      refine walk ?_
      refine ops_up (c := { c with st := .ke }) rfl rfl (by decide) ?_
      refine ops_g (opG_markAt (ad := stA c.cy.wg) (c := { c with st := .ke }) rfl rfl (.acq rfl) ?_)
      refine walk ?_
      refine finG [] ?_
      exact ⟨rfl, rfl, rfl, rfl⟩
    · refine walk ?_
      exact out_nextG hK v' (by omega) (by omega)
end Go.Proofs.YtafhinjggdknjaaDoor
namespace Go.Proofs.YtafhinjggdknjaaDoor
open Go Go.Sx Go.X Go.Proofs
theorem setS_eq {W : GW} {s : Gh} (h : W.s = s) : setS W s = W := by subst h; rfl
theorem hrow_rle {H H' : Heap} (h : Rle H H') {b o : Nat} {cs : List Value} (hr : HRow H b o cs) : HRow H' b o cs := fun j v hj => h _ _ _ (hr j v hj)
theorem rl_rle {α : Type} {R : Rd α} {H H' : Heap} (hR : ∀ c x, R H c x → R H' c x) : ∀ {cs : List Value} {xs : List α}, RL R H cs xs → RL R H' cs xs
  | _, [], h => h
  | _, _ :: _, ⟨c, r, e, h1, h2⟩ => ⟨c, r, e, hR _ _ h1, rl_rle hR h2⟩
theorem slr_rle {α : Type} {R : Rd α} {sz : Nat} {H H' : Heap} (h : Rle H H') (hR : ∀ c x, R H c x → R H' c x) {v : Value} {xs : List α} (hs : SlR R sz H v xs) : SlR R sz H' v xs := by
  obtain ⟨cs, ⟨base, cap, a, b, c, d, e⟩, hr⟩ := hs
  exact ⟨cs, ⟨base, cap, a, b, c, d, e.imp id fun ⟨b, off, x, y⟩ => ⟨b, off, x, hrow_rle h y⟩⟩, rl_rle hR hr⟩
theorem slb_rle {α : Type} {R : Rd α} {sz w : Nat} {H H' : Heap} (h : Rle H H') (hR : ∀ c x, R H c x → R H' c x) {v : Value} {xs : List α} (hs : SlB R sz w H v xs) : SlB R sz w H' v xs := ⟨slr_rle h hR hs.1, hs.2⟩
theorem rJob_rle {H H' : Heap} (h : Rle H H') {c : List Value} {x : Job} (hs : rJob H c x) : rJob H' c x := by
  obtain ⟨s, e, f1, f2, f3, f4, hs⟩ := hs
  exact ⟨s, e, f1, f2, f3, f4, slb_rle h (fun c x hx => hx) hs⟩
theorem tab_fz {P : Program} {H : Heap} (h : TabH P H) : TabH P (fz H) := by
  obtain ⟨g, T, f, a, b⟩ := h
  exact ⟨g, T, _, a, by unfold fz; rw [b]⟩
theorem el_flat {H H' : Heap} : ∀ {es : List MapEntry} {m : List (Int × Int)}, EL (fun x : Int => Value.int .i64 x) rInt false H es m → EL (fun x : Int => Value.int .i64 x) rInt false H' es m
  | [], [], h => h
  | _ :: _, _ :: _, ⟨a, b, c⟩ => ⟨a, b, el_flat c⟩
  | [], _ :: _, h => h.elim
  | _ :: _, [], h => h.elim
theorem rG_fz {W0 W1 : GW} {H : Heap} {p : Value} {m : Map} (h : rG W0 H p m) (hs : W0.s = .solo) (h1 : pool W1.s = H) : rG W1 (fz H) p m := by
  obtain ⟨⟨b, s, mb, mm, e, g1, g2, g3, g4⟩, hg, hf⟩ := h
  refine ⟨⟨b, s, mb, mm, e, hrow_rle (rle_fz H) g1, slb_rle (rle_fz H) (fun _ _ hx => hx) g2, ?_, g4⟩, hg, hf⟩
  obtain ⟨es, c, a, hb⟩ := g3
  have hb' : H mb = some (.map es c) := by
    rcases hb with hb | hb
    · exact hb
    · rw [hs] at hb; cases hb
  exact ⟨es, c, ⟨el_flat a.el, a.nodup, a.rise, a.lt⟩, .inr (by rw [h1]; exact hb')⟩
end Go.Proofs.YtafhinjggdknjaaDoor
namespace Go.Proofs.YtafhinjggdknjaaDoor
open Go Go.Sx Go.X Go.Proofs Go.Conc
open Go.ConcR (KK wgBlock WgAt stA smA rd wr mk)
def okF (m : Map) (js : List Job) : Nat → Value → Heap → Prop := fun j v D => ∃ job vr, js[j]? = some job ∧ v = .agg [I j, I (planRt m job).Start, vr, I (planC m job)].toArray ∧ big [ownS rInt 1 8 3 Heap.empty vr (planRt m job).Cells] D ∧ Bnd D
theorem hcell_obj {H : Heap} {b : Nat} {v : Value} (h : HRow H b 0 [v]) : ∃ (C : Nat) (cs : Array Value) (T : TypeId) (fz : Nat × Nat) (v : Value), H C = some (.cells cs T fz) ∧ cs[0]? = some v := by
  have h1 := h 0 v rfl
  unfold hcell at h1
  split at h1
  · rename_i c T f hb; exact ⟨b, c, T, f, v, hb, h1⟩
  · cases h1
set_option maxHeartbeats 4000000 in
theorem kid_all {W0 Ws : GW} {q : Cs} {g v : Value} {m : Map} {js : List Job} {gb jb db nb : Nat} (hty : q.cy.ty = 64) (hjob : q.job = none) (hoff : q.off = false) (hlim : q.cy.lim = js.length) (hok : q.cy.ok = okF m js)
    (hT : TabH Tryd.prog q.cy.base) (hG : rG Ws q.cy.base g m) (hs : Ws.s = .solo) (hv : SlR rJob 5 q.cy.base v js) (hl : ∀ j ∈ js, j.Taken.length ≤ 100)
    (h1 : HRow q.cy.base gb 0 [g]) (h2 : HRow q.cy.base jb 0 [v]) (h3 : HRow q.cy.base db 0 [.chan (some q.cy.dl)]) (h4 : HRow q.cy.base nb 0 [.chan (some q.cy.dn)]) :
    KidOk Tryd.prog W0 { target := .fn (.func 16) #[.pointer (some ⟨q.cy.wg, 0, none⟩), .pointer (some ⟨db, 0, none⟩), .pointer (some ⟨gb, 0, none⟩), .pointer (some ⟨jb, 0, none⟩), .pointer (some ⟨nb, 0, none⟩)], args := #[] } q := by
  refine kid_ok (cap := [_, _, _, _, _]) wgLib rfl (by kernel_rfl) hty (hcell_obj h1) rfl ?_
  obtain ⟨vb, vc, rfl, _, _⟩ := hv.shape
  have hR := rle_fz q.cy.base
  have p1 := hrow_rle hR h1
  have p2 := hrow_rle hR h2
  have p3 := hrow_rle hR h3
  have p4 := hrow_rle hR h4
  have pv := slr_rle hR (fun _ _ hx => rJob_rle hR hx) hv
  have pT := tab_fz hT
  refine walk ?_
  refine ops_defer (vs := [_]) rfl ?_
  refine walk ?_
  refine ex_loopG (fun s : Cs => s.job = none ∧ s.off = false ∧ s.cy = q.cy) (fun s => setS W0 (.snd s)) (fun s => [(8, .chan (some q.cy.dl)), (2, .pointer (some ⟨gb, 0, none⟩)), (3, .pointer (some ⟨jb, 0, none⟩)), (4, .pointer (some ⟨nb, 0, none⟩))]) (fun _ => fz q.cy.base) (fun _ => []) (fun s => q.cy.lim - s.lo) q ⟨hjob, hoff, rfl⟩ fun s ⟨i1, i2, i3⟩ K hK => ?_
  refine walk ?_
  refine ops_g (opG_ask (c := s) rfl i1 i2 (by rw [i3]; rfl) (fun j hlo hj => ?_) ?_)
  · rw [i3] at hj
    refine walk ?_
    have hj' : j < js.length := by omega
    have pg : rG (setS W0 (.snd { s with job := some j, lo := j + 1 })) (fz q.cy.base) g m := rG_fz hG hs (by show s.cy.base = _; rw [i3])
    generalize hjob2 : js[j] = job
    have hje : js[j]? = some job := by rw [← hjob2, List.getElem?_eq_getElem hj']
    refine ex_cutk (σ := Heap × Value × Nat) (fun t => (fz q.cy.base).le t.1) (fun t => [(5, .int .i64 j), (6, .pointer (some ⟨t.2.2, 0, none⟩)), (7, I (planC m job)), (8, .chan (some q.cy.dl)), (2, .pointer (some ⟨gb, 0, none⟩)), (3, .pointer (some ⟨jb, 0, none⟩)), (4, .pointer (some ⟨nb, 0, none⟩))]) (fun t => t.1)
      (fun t => [row t.2.2 41 [I (planRt m job).Start, t.2.1], ownS rInt 1 8 3 t.1 t.2.1 (planRt m job).Cells]) (fun K2 hK2 => ?_) fun ⟨H1, v9, pb⟩ hl1 => ?_
    · refine ex_any 11 [] ?_
      refine gny_ldHo 0 0 rfl rfl p1 rfl rfl ?_
      refine gny_ldHo 1 0 rfl rfl p2 rfl rfl ?_
      refine stepY 2 ?_
      refine gny_ixp 3 rfl rfl rfl pv hj' fun b off c e1 e2 => ?_
      rw [hjob2] at e2
      refine gny_ldNH 4 rfl rfl rfl e1 (RdOk.len (R := rJob) e2) ?_
      have hp := plan_any (W0 := setS W0 (.snd { s with job := some j, lo := j + 1 })) pT pg e2 (hl _ (List.mem_of_getElem? hje))
      refine any_ca 5 9 rfl rfl rfl hp (fun r H1 B hl1 hr => ⟨Sub.nil _, ?_⟩) (fun pb hpb => ?_)
      · obtain ⟨v9, rfl, rfl⟩ := hr
        refine any_shape v9 fun d9 e9 e _ _ _ => ?_
        subst e
        refine stepY 6 ?_
        refine gny_ext 7 rfl rfl rfl rfl ?_
        refine gny_ext 8 rfl rfl rfl rfl ?_
        refine gny_alloc 9 rfl rfl (fun pb _ => ?_)
        refine any_sta 10 rfl rfl rfl rfl (by simp) rfl ⟨Sub.nil _, ?_⟩
        refine any_rest rfl ?_
        refine walk ?_
        refine out_to hK2 (H1, .slice d9 (planRt m job).Cells.length e9, pb) hl1
      · refine any_call 5 rfl rfl hp fun r H1 B hl1 hr => ⟨Sub.nil _, ?_⟩
        obtain ⟨v9, rfl, rfl⟩ := hr
        refine any_shape v9 fun d9 e9 e _ _ _ => ?_
        subst e
        refine stepY 6 ?_
        refine gny_ext 7 rfl rfl rfl rfl ?_
        refine gny_ext 8 rfl rfl rfl rfl ?_
        refine any_sta 10 rfl rfl rfl rfl (by simp) rfl ⟨Sub.nil _, ?_⟩
        refine any_rest rfl ?_
        refine walk ?_
        refine out_to hK2 (H1, .slice d9 (planRt m job).Cells.length e9, pb) hl1
    · dsimp only at hl1 ⊢
      refine ex_L (L' := ownS rInt 1 8 3 H1 v9 (planRt m job).Cells :: [row pb 41 [I (planRt m job).Start, v9]]) subA ?_
      refine ex_shape v9 fun d9 e9 e _ _ _ => ?_
      subst e
      have p4' := p4.mono hl1
      refine ex_L (L' := ownS rInt 1 8 3 Heap.empty (.slice d9 (planRt m job).Cells.length e9) (planRt m job).Cells :: [row pb 41 [I (planRt m job).Start, .slice d9 (planRt m job).Cells.length e9]]) (sub_flat H1 Heap.empty) ?_
      refine walk ?_
      refine ops_g0 (opG_give (c := { s with job := some j, lo := j + 1 }) (jj := j) (LD := [ownS rInt 1 8 3 Heap.empty (.slice d9 (planRt m job).Cells.length e9) (planRt m job).Cells]) rfl rfl i2 (by rw [i3]; rfl) rfl (.cons .here .nil) (fun D d1 d2 d3 d4 => ?_) ?_)
      · show s.cy.ok j _ D
        rw [i3, hok]
        exact ⟨job, _, hje, rfl, d1, d2⟩
      · refine walk ?_
        refine out_weak hl1 (out_nextG hK { s with job := none, lo := j + 1 } ⟨rfl, i2, i3⟩ (by simp only; omega))
  · refine walk ?_
    refine outD (.inl rfl) rfl fun w hw => ⟨_, hw.sh, rfl, i1, i3⟩
end Go.Proofs.YtafhinjggdknjaaDoor
