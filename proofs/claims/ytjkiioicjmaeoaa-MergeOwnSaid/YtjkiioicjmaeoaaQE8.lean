/- Statements whose order is open, their operations guarded. No program in sight. -/
import Derived.Test.YtjkiioicjmaeoaaQE3
set_option linter.unusedVariables false
set_option linter.unusedSimpArgs false
namespace Go.Sx
open Go Go.X
section
variable (P : Program) (n : NF) (W0 : GW) (Q : Exit → Act → GW → Prop) (F : Slots) (H H0 : Heap) (L L0 : List HProp)
end
section
variable {P : Program} {n : NF} {W0 : GW} {Q : Exit → Act → GW → Prop} {F : Slots} {H H0 : Heap} {L L0 : List HProp} {m fuel : Nat} {ops : Array Oper} {listed : Array Bool} {k : List Fr} {op : Op} {ty : TypeId} {pos : String} {aft : Array Edge} {d : Tmp} {v : Value} {vs : List Value}
section
variable {K : Value → Heap → List HProp → Prop} {dst : Option Tmp} {g : Option (Nat × Bool)} {o : Oper}
variable {α : Type} {R : Rd α} {sz wd T : Nat} {H1 : Heap} {xs ys : List α} {y : α} {L' : List HProp} {sv xv z : Value} {us : List Value} {t : TypeId} {s x : Operand}
end
theorem ops_ixo {α : Type} {R : Rd α} {sz w T : Nat} {HS : Heap} {xs : List α} {L' : List HProp} {t : TypeId} {x y : Operand} {i : Int} {j : Nat} {kd : IntKind} {d' : Tmp} {ty' : TypeId} {pos' : String} {aft' : Array Edge} {g g' : Option (Nat × Bool)} {gv gv' : Option (Value × Bool)} {rest : List Oper} [hR : RdOk R sz] [TSl P t T] [TSz P T sz] [TAgg P T true]
    (hg : gval ops F g = some gv) [hb : GOk gv true] (hg' : gval ops F g' = some gv') [hb' : GOk gv' true] (hv : opvs F [x, y] = some [v, .int kd i]) [hi : NatOf i j] [hh : HasS L v α R sz w T HS xs L'] (hj : j < xs.length) (hk : ∀ c, R HS c (xs[j]'hj) → Ops P n W0 Q ((d', .agg c.toArray) :: F) H L false ops rest k)
    (hn : fget F d = none := by rfl) (hd : Nat.blt d n = true := by rfl) (hd' : Nat.blt d' n = true := by rfl) : Ops P n W0 Q F H L false ops (⟨some d, .indexAddr t x y, ty, pos, aft, g⟩ :: ⟨some d', .load T (.tmp d), ty', pos', aft', g'⟩ :: rest) k := by
  obtain ⟨rfl⟩ := hi
  obtain ⟨hvx, hvy⟩ := opvs2 hv
  refine ops_open (σ := List Value) (B := fun cs => [own T sz v xs.length cs]) (p := fun cs => RL R HS cs xs ∧ xs.length * w ≤ cap47) hh.has (fun x ⟨cs, a, b⟩ => ⟨cs, a, ⟨x, Heap.empty, b, trivial, fun _ => .inr rfl, .refl _, fun _ _ h => by simp [Heap.empty] at h⟩⟩) fun cs ⟨a, hsm⟩ => ?_
  obtain ⟨c, r, hcr, hc⟩ := a.get hj
  refine ops_open (σ := Nat × Nat × List Value) (B := fun s => [row s.1 T (cs ++ s.2.2)]) (p := fun s => v = .slice (some ⟨s.1, 0, none⟩) xs.length s.2.1 ∧ xs.length ≤ s.2.1 ∧ s.2.1 ≤ 9223372036854775807 ∧ cs.length = xs.length * sz ∧ (cs ++ s.2.2).length = s.2.1 * sz) .here (fun h ho => own_open (by omega) ho) fun ⟨b, cap, sp⟩ ⟨he, h5, h6, h7, h8⟩ => ?_
  simp only at he h5 h6 h7 h8
  subst he
  refine ops_pure hg hd (op_indexAddr (i := (j : Int)) hvx hvy (by omega) (by omega)) ?_
  refine ops_pure (v := .agg c.toArray) (gval_new hn hg') hd' (op_loadAt (b := b) (off := 0 + (j : Int).toNat * sz) (cs := cs ++ sp) (by simp [opv, fget]) .here (at_of_drop (by simpa using hcr)) (hR.len hc)) ?_
  refine ops_fsub (fsub_new hn) (ops_L ?_ (hk c hc))
  refine Sub.trans ?_ hh.has.from
  intro h hb
  obtain ⟨h1, h2, p, q, dd, l1, l2⟩ := own_shut (R := L') h7 h5 h6 h8 h hb
  exact ⟨h1, h2, ⟨cs, ⟨a, hsm⟩, p⟩, q, dd, l1, l2⟩
end
end Go.Sx
namespace Go.Sx
open Go Go.X
section
variable {α : Type} {R : Rd α} {sz : Nat} {H : Heap}
theorem RL.set [hR : RdOk R sz] : ∀ {cs us : List Value} {xs : List α} {j : Nat} {y : α}, RL R H cs xs → R H us y → j < xs.length → RL R H (cs.take (j * sz) ++ us ++ cs.drop (j * sz + us.length)) (xs.set j y) := by
  intro cs us xs j y h hy hj
  have h1 := h.take (k := j) (by omega)
  have h2 := h.drop (k := j + 1) (by omega)
  have e : xs.set j y = xs.take j ++ [y] ++ xs.drop (j + 1) := by
    rw [List.set_eq_take_append_cons_drop, if_pos hj]; simp
  rw [e, hR.len hy, show j * sz + sz = (j + 1) * sz by rw [Nat.add_mul]; omega]
  exact (h1.snoc hy).app h2
end
section
variable {P : Program} {n : NF} {W0 : GW} {Q : Exit → Act → GW → Prop} {F : Slots} {H H0 : Heap} {L L0 : List HProp} {m fuel : Nat} {ops : Array Oper} {listed : Array Bool} {k : List Fr} {op : Op} {ty ty' : TypeId} {pos pos' : String} {aft aft' : Array Edge} {d : Tmp} {v : Value} {vs : List Value} {rest : List Oper} {g : Option (Nat × Bool)} {gv : Option (Value × Bool)}
theorem ops_stS {α : Type} {R : Rd α} {sz w T : Nat} {HS : Heap} {xs : List α} {L' : List HProp} {t : TypeId} {x i y : Operand} {ii : Int} {j : Nat} {kd : IntKind} {yv : Value} {us : List Value} {y' : α} [hR : RdOk R sz] [TSl P t T] [hsz : TSz P T sz]
    (hg : gval ops F g = some gv) [hb : GOk gv true] (hv : opvs F [x, i] = some [v, .int kd ii]) [hi : NatOf ii j] (hyv : opv F y = some yv) [hc : CellsI yv us] [hh : HasS L v α R sz w T HS xs L'] (hy : R HS us y') (hj : j < xs.length)
    (hk : Ops P n W0 Q F H (ownS R sz w T HS v (xs.set j y') :: L') false ops rest k) (hn : fget F d = none := by rfl) (hd : Nat.blt d n = true := by rfl) (hs0 : ∀ u, opv ((d, u) :: F) y = opv F y := by intro u; rfl) :
    Ops P n W0 Q F H L false ops (⟨some d, .indexAddr t x i, ty, pos, aft, g⟩ :: ⟨none, .store T (.tmp d) y, ty', pos', aft', none⟩ :: rest) k := by
  obtain ⟨rfl⟩ := hi
  obtain ⟨hvx, hvy⟩ := opvs2 hv
  have hne : 0 < xs.length := by omega
  refine ops_rowS v hne fun b cap cs sp e h1 h2 h3 h4 hr hsm => ?_
  have hul := hR.len hy
  have hmul : (j + 1) * sz ≤ xs.length * sz := Nat.mul_le_mul_right _ hj
  rw [Nat.add_mul, Nat.one_mul] at hmul
  subst e
  refine ops_pure hg hd (op_indexAddr (i := (j : Int)) hvx hvy (by omega) (by omega)) ?_
  refine ops_n (op_storeAt (vs := us) (off := j * sz) (by simp [opv, fget]) ((hs0 _).trans hyv) hc.h hul (hR.one hy) .here (by rw [List.length_append]; omega) ?_)
  refine ops_fsub (F := F) ?_ (ops_L ?_ hk)
  · intro t w ht
    rw [fget_cons]
    split
    · rename_i e; subst e; rw [hn] at ht; cases ht
    · exact ht
  · refine Sub.trans (own_set h3 h1 h2 h4 (by omega)) ?_
    have hset := hr.set hy hj
    have hl2 : (xs.set j y').length = xs.length := by simp
    rw [← hl2]
    exact ownS_mk hset (by rw [hl2]; exact hsm)
theorem ops_appSO {α : Type} {R : Rd α} {sz w T : Nat} {H1 H2 : Heap} {xs ys : List α} {L' L2 : List HProp} {sv xv z : Value} {t : TypeId} {s x : Operand} [hT : TSl P t T] [hI : TIn P T sz w z] [hR : RdOk R sz] (hg : gval ops F g = some gv) [hb : GOk gv true] (hv : opvs F [s, x] = some [sv, xv])
    [hh : HasS L sv α R sz w T H1 xs L'] [hx : HasS L' xv α R sz w T H2 ys L2] (hcap : (xs.length + ys.length) * w ≤ cap47)
    (hk : ∀ base cap, Ops P n W0 Q ((d, .slice base (xs.length + ys.length) cap) :: F) H (ownS R sz w T H (.slice base (xs.length + ys.length) cap) (xs ++ ys) :: L') false ops rest k)
    (hl : H1.le H := by first | exact Go.Sx.Heap.le.refl _ | assumption | ((try simp only [Go.Sx.le_self] at *); (repeat (first | exact Go.Sx.Heap.le.refl _ | assumption | refine Go.Sx.Heap.le.trans ?_ ‹Go.Sx.Heap.le _ _›)))) (hl2 : H2.le H := by first | exact Go.Sx.Heap.le.refl _ | assumption | ((try simp only [Go.Sx.le_self] at *); (repeat (first | exact Go.Sx.Heap.le.refl _ | assumption | refine Go.Sx.Heap.le.trans ?_ ‹Go.Sx.Heap.le _ _›)))) (h0 : (Nat.blt 0 w) = true := by rfl) (hd : Nat.blt d n = true := by rfl) :
    Ops P n W0 Q F H L false ops (⟨some d, .call ⟨.builtin .append, #[s, x], #[t, t]⟩, ty, pos, aft, g⟩ :: rest) k := by
  obtain ⟨hvs, hvx⟩ := opvs2 hv
  have hwpos : 0 < w := by simpa [Nat.blt_eq] using h0
  refine ops_open (σ := List Value) (B := fun cs => [own T sz sv xs.length cs]) (p := fun cs => RL R H1 cs xs ∧ xs.length * w ≤ cap47) hh.has (fun x ⟨cs, a, b⟩ => ⟨cs, a, ⟨x, Heap.empty, b, trivial, fun _ => .inr rfl, .refl _, fun _ _ h => by simp [Heap.empty] at h⟩⟩) fun cs ⟨a, hsm⟩ => ?_
  have hc47 := cap47_fits hwpos hcap
  rcases Nat.eq_zero_or_pos ys.length with hz | hp
  · have hy0 : ys = [] := List.eq_nil_of_length_eq_zero hz
    subst hy0
    refine ops_know (A := ownS R sz w T H2 xv []) (.there hx.has) (fun h ho => ownS_shape ho) fun ⟨bb, cc, e, _, _⟩ => ?_
    subst e
    refine ops_w hg hd (op_append (m := xs.length) (k := 0) (news := []) hvs hvx .here (.nil hT.und) (by simp only [maxLen]; simp only [cap47] at hc47; simp at hc47; omega) (by have := hcap; simp only [cap47] at this; simpa using this) fun base cap => ?_)
    refine ops_L ?_ (hk base cap)
    intro h ⟨h1, h2, p, q, dd, l1, l2⟩
    exact ⟨h1, h2, ⟨cs ++ [], ⟨by simpa using a.mono hl, by simpa using hcap⟩, by simpa using p⟩, q, dd, l1, l2⟩
  · refine ops_L (L' := ownS R sz w T H2 xv ys :: own T sz sv xs.length cs :: L2) ((Sub.cons hx.has.to).trans fun _ => big_swap) ?_
    refine ops_rowS xv hp fun b cap2 ds sp e g1 g2 g3 g4 hr hsm2 => ?_
    subst e
    refine ops_w hg hd (op_append (m := xs.length) (k := ys.length) (news := ds) hvs hvx (.there .here) (.row (T := T) (sp := sp) hT.und .here (by simpa using g3) hr.one) (by simp only [maxLen]; simp only [cap47] at hc47; omega) hcap fun base cap => ?_)
    refine ops_L ?_ (hk base cap)
    have key : Sub (own T sz (.slice base (xs.length + ys.length) cap) (xs.length + ys.length) (cs ++ ds) :: row b T (ds ++ sp) :: L2) (ownS R sz w T H (.slice base (xs.length + ys.length) cap) (xs ++ ys) :: ownS R sz w T H2 (.slice (some ⟨b, 0, none⟩) ys.length cap2) ys :: L2) := by
      intro h ⟨h1, h2, p, q, dd, l1, l2⟩
      exact ⟨h1, h2, ⟨cs ++ ds, ⟨(a.mono hl).app (hr.mono hl2), by simpa using hcap⟩, by simpa using p⟩, ((own_shut g3 g1 g2 g4).trans (ownS_mk hr hsm2)) _ q, dd, l1, l2⟩
    refine Sub.trans ?_ (Sub.cons hx.has.from)
    refine Sub.trans ?_ key
    exact Sub.refl _
end
end Go.Sx
namespace Go.Sx
open Go Go.X Go.ChangeShapes Go.WideShapes Go.ChangeAt Go.RowKit
theorem st_below {W w' : World} (h1 : w'.os = W.os) (h2 : w'.tape = W.tape) (h3 : w'.output = W.output) (h : (rp W).le (rp w')) : Below W.heap.size W w' := by
  refine ⟨h1, h2, h3, ?_, fun k hk => ?_⟩
  · refine Nat.le_of_not_lt fun hlt => ?_
    have : rp W w'.heap.size = some W.heap[w'.heap.size] := by simp [rp, hlt]
    have := (Array.getElem?_eq_some_iff.1 (h _ _ this)).1
    omega
  · have e : rp W k = some W.heap[k] := by simp [rp, hk]
    exact (h k _ e).trans e.symm
section
variable {H : Type} {enc : TypeId × Value → H} {P : Program} {W W' : World}
def tysOk (P : Program) (ts : List TypeId) : Bool := ts.all fun t => P.readableRec t && decide (t < P.types.size)
theorem trodAll_below (hl : laidOutB P = true) (hB : Below W.heap.size W W') : ∀ {ts : List TypeId} {vs : List Value} {ds : List (DataW H)} {ps : List MemPlace}, tysOk P ts = true →
    DataW.TrodAll enc P W 0 (fun _ => true) true ts vs ds ps → (∀ x ∈ ps, x.block < W.heap.size) → DataW.TrodAll enc P W' 0 (fun b => decide (b < W.heap.size)) true ts vs ds ps
  | [], vs, ds, ps, _, h, _ => by
    obtain ⟨rfl, rfl, rfl⟩ := trodAll_nil h
    exact rfl
  | t :: ts, vs, ds, ps, ht, h, hlt => by
    obtain ⟨v, vs', d, ds', p, q, rfl, rfl, rfl, h1, h2⟩ := trodAll_cons h
    simp only [tysOk, List.all_cons, Bool.and_eq_true, decide_eq_true_eq] at ht
    exact ⟨p, q, Below.trod hl ht.1.1 ht.1.2 h1 hB (fun x hx => hlt x (List.mem_append_left _ hx)), trodAll_below hl hB (by simpa [tysOk] using ht.2) h2 (fun x hx => hlt x (List.mem_append_right _ hx)), rfl⟩
theorem post_law {f : Func} {s : ChangeSpec} {args : Array Value} {ds : List (DataW H)} {before : List MemPlace} {v : Value} (hl : laidOutB P = true) (hts : tysOk P f.params.toList = true) (hv : s.vars = [])
    (hW : DataW.Whole enc P f.params.toList s.vars false W args.toList ds [] before) (hB : Below W.heap.size W W')
    (hargs : (s.fn H (ds ++ [])).args = ds) (hvars : (s.fn H (ds ++ [])).vars = [])
    (hres : ∀ b sp hd, DataW.TrodAll enc P W' b sp hd f.resultTypes.toList (v.resultList f.resultTypes.size) (s.fn H (ds ++ [])).results []) :
    s.post enc P f false true false false W args v W' := by
  have hlt := hW.lt
  have hW2 := hW
  obtain ⟨p, q, hA, hV, rfl, _, _⟩ := hW2
  rw [hv] at hV
  obtain ⟨-, rfl⟩ := trodVars_none hV
  refine ⟨ds, [], _, [], p, [], hW, hres _ _ _, ?_, ?_, hB.frame _, fun h => by cases h⟩
  · rw [hargs]; exact trodAll_below hl hB hts hA (fun x hx => hlt x (List.mem_append_left _ hx))
  · rw [hvars, hv]; exact rfl
theorem arg_rds {α : Type} {R : Rd α} {t : TypeId} (hR : Rds P t R) {v : Value} {d : DataW H} {ps : List MemPlace} (h : DataW.Trod enc P W 0 (fun _ => true) true t v d ps) (hw : Wts P t d) : ∃ y, R (rp W) v.cells.toList y := by
  obtain ⟨fuel, hf⟩ := h
  exact hR hf hw
theorem wts_all {ts : List TypeId} {ds : List (DataW H)} (h : (DataW.weightsEach P ts ds).all (· ≤ reachBytes) = true) {i : Nat} {t : TypeId} {d : DataW H} (ht : ts[i]? = some t) (hd : ds[i]? = some d) : Wts P t d := fun x hx => by
  have := (List.all_eq_true.1 h) x (mem_weightsEach ht hd hx)
  simpa using this
theorem law_end {f : Func} {s : ChangeSpec} {args : Array Value} {ds : List (DataW H)} {before : List MemPlace}
    (hl : laidOutB P = true) (hts : tysOk P f.params.toList = true) (hv : s.vars = []) (hW : DataW.Whole enc P f.params.toList s.vars false W args.toList ds [] before)
    (hargs : (s.fn H (ds ++ [])).args = ds) (hvars : (s.fn H (ds ++ [])).vars = []) (hres : ∀ b sp hd, DataW.TrodAll enc P W' b sp hd f.resultTypes.toList ((Value.bool true).resultList f.resultTypes.size) (s.fn H (ds ++ [])).results [])
    (h1 : W'.os = W.os) (h2 : W'.tape = W.tape) (h3 : W'.output = W.output) (h : (rp W).le (rp W')) : s.post enc P f false true false false W args (.bool true) W' :=
  post_law hl hts hv hW (st_below h1 h2 h3 h) hargs hvars hres
end
end Go.Sx
namespace Go.Sx
open Go Go.X
section
variable {q : Bool} {P : Program} {n : NF} {W0 : GW} {Q : Exit → Act → GW → Prop} {F : Slots} {H : Heap} {L : List HProp} {ops : Array Oper} {rest : List Oper} {k : List Fr} {ty : TypeId} {pos : String} {aft : Array Edge} {d : Tmp} {v : Value} {g : Option (Nat × Bool)} {gv : Option (Value × Bool)}
theorem ops_stall {x y : Operand} {t : TypeId} {b T m : Nat} {cs us : List Value} {R : List HProp} [TSz P t m] (hv : opvs F [x, y] = some [.pointer (some ⟨b, 0, none⟩), .agg us.toArray]) [h : HasRow L b T cs R] (hl : us.length = m) (hcs : cs.length = m) (h1 : us.all (·.oneCell') = true)
    (hk : Ops P n W0 Q F H (row b T us :: R) false ops rest k) : Ops P n W0 Q F H L false ops (⟨none, .store t x y, ty, pos, aft, none⟩ :: rest) k := by
  refine ops_n (op_storeAt (off := 0) (vs := us) (opvs2 hv).1 (opvs2 hv).2 rfl hl h1 h.has (by omega) ?_)
  rw [List.take_zero, List.nil_append, Nat.zero_add, List.drop_eq_nil_of_le (by omega), List.append_nil]
  exact hk
theorem ops_ldall {x : Operand} {t : TypeId} {b T m : Nat} {us : List Value} {R : List HProp} [TAgg P t true] [TSz P t m] (hg : gval ops F g = some gv) [hb : GOk gv true] (hx : opv F x = some (.pointer (some ⟨b, 0, none⟩))) [h : HasRow L b T us R] (hl : us.length = m)
    (hk : Ops P n W0 Q ((d, .agg us.toArray) :: F) H L q ops rest k) (hd : Nat.blt d n = true := by rfl) : Ops P n W0 Q F H L q ops (⟨some d, .load t x, ty, pos, aft, g⟩ :: rest) k :=
  ops_pure hg hd (op_loadAt (off := 0) hx h.has (At.whole us) hl) hk
theorem ops_ldat {x : Operand} {t : TypeId} {b off T m : Nat} {cs us : List Value} {R : List HProp} [TAgg P t true] [TSz P t m] (hg : gval ops F g = some gv) [hb : GOk gv true] (hx : opv F x = some (.pointer (some ⟨b, off, none⟩))) [h : HasRow L b T cs R] (ha : At cs off us) (hl : us.length = m)
    (hk : Ops P n W0 Q ((d, .agg us.toArray) :: F) H L q ops rest k) (hd : Nat.blt d n = true := by rfl) : Ops P n W0 Q F H L q ops (⟨some d, .load t x, ty, pos, aft, g⟩ :: rest) k :=
  ops_pure hg hd (op_loadAt hx h.has ha hl) hk
end
end Go.Sx
namespace Go.Sx
open Go Go.X
section
variable {P : Program} {x y : Operand} {T T' : TypeId} [TBo P T]
end
section
variable {P : Program} {n : NF} {W0 : GW} {Q : Exit → Act → GW → Prop} {F : Slots} {H H0 : Heap} {L L0 : List HProp} {m fuel : Nat} {ops : Array Oper} {listed : Array Bool} {k : List Fr} {op : Op} {ty : TypeId} {pos : String} {aft : Array Edge} {d : Tmp} {v : Value} {vs : List Value}
end
end Go.Sx
