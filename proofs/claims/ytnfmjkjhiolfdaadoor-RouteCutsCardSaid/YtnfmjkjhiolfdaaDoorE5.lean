/- Elements written in owned slices; more on open orders; function values that only ask. No program in sight. -/
import Derived.Test.YtnfmjkjhiolfdaaDoorE4
set_option linter.unusedVariables false
set_option linter.unusedSimpArgs false
namespace Go.Sx
open Go
section
variable {α : Type} {R : Rd α} {sz : Nat} {H : Heap}
theorem RL.set [hR : RdOk R sz] : ∀ {cs us : List Value} {xs : List α} {j : Nat} {y : α}, RL R H cs xs → R H us y → j < xs.length → RL R H (cs.take (j * sz) ++ us ++ cs.drop (j * sz + us.length)) (xs.set j y) := by
  intro cs us xs j y h hy hj
  have h1 := h.take (k := j) (by omega)
  have h2 := h.drop (k := j + 1) (by omega)
  have e : xs.set j y = xs.take j ++ [y] ++ xs.drop (j + 1) := by
    rw [List.set_eq_take_append_cons_drop, if_pos hj]; simp
  rw [e, hR.len hy, show j * sz + sz = (j + 1) * sz by rw [Nat.add_mul]; omega]
  exact (h1.snoc hy).app h2
end
section
variable {P : Program} {n : Nat} {W0 : World} {Q : Exit → Act → World → Prop} {F : Slots} {H H0 : Heap} {L L0 : List HProp} {m fuel : Nat} {ops : Array Oper} {listed : Array Bool} {k : List Fr} {op : Op} {ty ty' : TypeId} {pos pos' : String} {aft aft' : Array Edge} {d : Tmp} {v : Value} {vs : List Value} {rest : List Oper} {g : Option (Nat × Bool)} {gv : Option (Value × Bool)}
/-- s[i] = y, the slice owned -/
theorem ops_stS {α : Type} {R : Rd α} {sz w T : Nat} {HS : Heap} {xs : List α} {L' : List HProp} {t : TypeId} {x i y : Operand} {ii : Int} {j : Nat} {kd : IntKind} {yv : Value} {us : List Value} {y' : α} [hR : RdOk R sz] [TSl P t T] [hsz : TSz P T sz]
    (hg : gval ops F g = some gv) [hb : GOk gv true] (hv : opvs F [x, i] = some [v, .int kd ii]) [hi : NatOf ii j] (hyv : opv F y = some yv) [hc : CellsI yv us] [hh : HasS L v α R sz w T HS xs L'] (hy : R HS us y') (hj : j < xs.length)
    (hk : Ops P n W0 Q F H (ownS R sz w T HS v (xs.set j y') :: L') false ops rest k) (hn : fget F d = none := by rfl) (hd : Nat.blt d n = true := by rfl) (hs0 : ∀ u, opv ((d, u) :: F) y = opv F y := by intro u; rfl) :
    Ops P n W0 Q F H L false ops (⟨some d, .indexAddr t x i, ty, pos, aft, g⟩ :: ⟨none, .store T (.tmp d) y, ty', pos', aft', none⟩ :: rest) k := by
  obtain ⟨rfl⟩ := hi
  obtain ⟨hvx, hvy⟩ := opvs2 hv
  have hne : 0 < xs.length := by omega
  refine ops_rowS v hne fun b cap cs sp e h1 h2 h3 h4 hr hsm => ?_
  have hul := hR.len hy
  have hmul : (j + 1) * sz ≤ xs.length * sz := Nat.mul_le_mul_right _ hj
  rw [Nat.add_mul, Nat.one_mul] at hmul
  subst e
  refine ops_pure hg hd (op_indexAddr (i := (j : Int)) hvx hvy (by omega) (by omega)) ?_
  refine ops_n (op_storeAt (vs := us) (off := j * sz) (by simp [opv, fget]) ((hs0 _).trans hyv) hc.h hul (hR.one hy) .here (by rw [List.length_append]; omega) ?_)
  refine ops_fsub (F := F) ?_ (ops_L ?_ hk)
  · intro t w ht
    rw [fget_cons]
    split
    · rename_i e; subst e; rw [hn] at ht; cases ht
    · exact ht
  · refine Sub.trans (own_set h3 h1 h2 h4 (by omega)) ?_
    have hset := hr.set hy hj
    have hl2 : (xs.set j y').length = xs.length := by simp
    rw [← hl2]
    exact ownS_mk hset (by rw [hl2]; exact hsm)
theorem any_ixp (i : Nat) {α : Type} {R : Rd α} {sz T : Nat} {t : TypeId} {x y : Operand} {xs : List α} {ii : Int} {j : Nat} {kd : IntKind} [hR : RdOk R sz] [TSl P t T] [TSz P T sz] (hi : ops[i]? = some ⟨some d, .indexAddr t x y, ty, pos, aft, none⟩) (hv : opvs F [x, y] = some [v, .int kd ii]) [hin : NatOf ii j]
    (hs : SlR R sz H0 v xs) (hj : j < xs.length) (h : ∀ b off c, HRow H0 b off c → R H0 c (xs[j]'hj) → AnyO P n W0 Q ((d, .pointer (some ⟨b, off, none⟩)) :: F) H H0 L L0 m ops fuel (listed.setIfInBounds i true) k)
    (hok : takeOk ops m listed i = true := by decide +kernel) (hQ : ∀ v c a w, Kx P Q k (.panic c) (a.put (some d) v) w → Kx P Q k (.panic c) a w := by exact fun _ _ _ _ h => h)
    (hl : H0.le H := by first | exact Go.Sx.Heap.le.refl _ | assumption | ((try simp only [Go.Sx.le_self] at *); (repeat (first | exact Go.Sx.Heap.le.refl _ | assumption | refine Go.Sx.Heap.le.trans ?_ ‹Go.Sx.Heap.le _ _›)))) (hsub : Sub L L0 := by (repeat (first | exact Go.Sx.Sub.refl _ | exact Go.Sx.Sub.nil _ | (apply Go.Sx.sub_pick; (repeat (first | exact Go.Sx.Has.here | apply Go.Sx.Has.there)); skip) | apply Go.Sx.Sub.drop)))
    (hd : Nat.blt d n = true := by rfl) : AnyO P n W0 Q F H H0 L L0 m ops (fuel + 1) listed k := by
  obtain ⟨rfl⟩ := hin
  obtain ⟨base, cap, rfl, h1, h2⟩ := hs.shape
  obtain ⟨b, off, c, rfl, h3, h4, h5⟩ := hs.get hj
  exact any_pure i hi (op_indexAddr (opvs2 hv).1 (opvs2 hv).2 (by omega) (by omega)) (h b _ c h4 h5) hok (hQ _) hl hsub hd
theorem any_ldNH (i : Nat) {x : Operand} {t : TypeId} {b off sz : Nat} {cs : List Value} [TAgg P t true] [TSz P t sz] (hi : ops[i]? = some ⟨some d, .load t x, ty, pos, aft, none⟩) (hx : opv F x = some (.pointer (some ⟨b, off, none⟩))) (hr : HRow H0 b off cs) (hlen : cs.length = sz) (h : AnyO P n W0 Q ((d, .agg cs.toArray) :: F) H H0 L L0 m ops fuel (listed.setIfInBounds i true) k)
    (hok : takeOk ops m listed i = true := by decide +kernel) (hQ : ∀ v c a w, Kx P Q k (.panic c) (a.put (some d) v) w → Kx P Q k (.panic c) a w := by exact fun _ _ _ _ h => h)
    (hl : H0.le H := by first | exact Go.Sx.Heap.le.refl _ | assumption | ((try simp only [Go.Sx.le_self] at *); (repeat (first | exact Go.Sx.Heap.le.refl _ | assumption | refine Go.Sx.Heap.le.trans ?_ ‹Go.Sx.Heap.le _ _›)))) (hsub : Sub L L0 := by (repeat (first | exact Go.Sx.Sub.refl _ | exact Go.Sx.Sub.nil _ | (apply Go.Sx.sub_pick; (repeat (first | exact Go.Sx.Has.here | apply Go.Sx.Has.there)); skip) | apply Go.Sx.Sub.drop)))
    (hd : Nat.blt d n = true := by rfl) : AnyO P n W0 Q F H H0 L L0 m ops (fuel + 1) listed k := any_pure i hi (op_loadNH hx hr hlen) h hok (hQ _) hl hsub hd
/-- append(s, x...), x owned too -/
theorem ops_appSO {α : Type} {R : Rd α} {sz w T : Nat} {H1 H2 : Heap} {xs ys : List α} {L' L2 : List HProp} {sv xv z : Value} {t : TypeId} {s x : Operand} [hT : TSl P t T] [hI : TIn P T sz w z] [hR : RdOk R sz] (hg : gval ops F g = some gv) [hb : GOk gv true] (hv : opvs F [s, x] = some [sv, xv])
    [hh : HasS L sv α R sz w T H1 xs L'] [hx : HasS L' xv α R sz w T H2 ys L2] (hcap : (xs.length + ys.length) * w ≤ cap47)
    (hk : ∀ base cap, Ops P n W0 Q ((d, .slice base (xs.length + ys.length) cap) :: F) H (ownS R sz w T H (.slice base (xs.length + ys.length) cap) (xs ++ ys) :: L') false ops rest k)
    (hl : H1.le H := by first | exact Go.Sx.Heap.le.refl _ | assumption | ((try simp only [Go.Sx.le_self] at *); (repeat (first | exact Go.Sx.Heap.le.refl _ | assumption | refine Go.Sx.Heap.le.trans ?_ ‹Go.Sx.Heap.le _ _›)))) (hl2 : H2.le H := by first | exact Go.Sx.Heap.le.refl _ | assumption | ((try simp only [Go.Sx.le_self] at *); (repeat (first | exact Go.Sx.Heap.le.refl _ | assumption | refine Go.Sx.Heap.le.trans ?_ ‹Go.Sx.Heap.le _ _›)))) (h0 : (Nat.blt 0 w) = true := by rfl) (hd : Nat.blt d n = true := by rfl) :
    Ops P n W0 Q F H L false ops (⟨some d, .call ⟨.builtin .append, #[s, x], #[t, t]⟩, ty, pos, aft, g⟩ :: rest) k := by
  obtain ⟨hvs, hvx⟩ := opvs2 hv
  have hwpos : 0 < w := by simpa [Nat.blt_eq] using h0
  refine ops_open (σ := List Value) (B := fun cs => [own T sz sv xs.length cs]) (p := fun cs => RL R H1 cs xs ∧ xs.length * w ≤ cap47) hh.has (fun x ⟨cs, a, b⟩ => ⟨cs, a, ⟨x, Heap.empty, b, trivial, fun _ => .inr rfl, .refl _, fun _ _ h => by simp [Heap.empty] at h⟩⟩) fun cs ⟨a, hsm⟩ => ?_
  have hc47 := cap47_fits hwpos hcap
  rcases Nat.eq_zero_or_pos ys.length with hz | hp
  · have hy0 : ys = [] := List.eq_nil_of_length_eq_zero hz
    subst hy0
    refine ops_know (A := ownS R sz w T H2 xv []) (.there hx.has) (fun h ho => ownS_shape ho) fun ⟨bb, cc, e, _, _⟩ => ?_
    subst e
    refine ops_w hg hd (op_append (m := xs.length) (k := 0) (news := []) hvs hvx .here (.nil hT.und) (by simp only [maxLen]; simp only [cap47] at hc47; simp at hc47; omega) (by have := hcap; simp only [cap47] at this; simpa using this) fun base cap => ?_)
    refine ops_L ?_ (hk base cap)
    intro h ⟨h1, h2, p, q, dd, l1, l2⟩
    exact ⟨h1, h2, ⟨cs ++ [], ⟨by simpa using a.mono hl, by simpa using hcap⟩, by simpa using p⟩, q, dd, l1, l2⟩
  · refine ops_L (L' := ownS R sz w T H2 xv ys :: own T sz sv xs.length cs :: L2) ((Sub.cons hx.has.to).trans fun _ => big_swap) ?_
    refine ops_rowS xv hp fun b cap2 ds sp e g1 g2 g3 g4 hr hsm2 => ?_
    subst e
    refine ops_w hg hd (op_append (m := xs.length) (k := ys.length) (news := ds) hvs hvx (.there .here) (.row (T := T) (sp := sp) hT.und .here (by simpa using g3) hr.one) (by simp only [maxLen]; simp only [cap47] at hc47; omega) hcap fun base cap => ?_)
    refine ops_L ?_ (hk base cap)
    have key : Sub (own T sz (.slice base (xs.length + ys.length) cap) (xs.length + ys.length) (cs ++ ds) :: row b T (ds ++ sp) :: L2) (ownS R sz w T H (.slice base (xs.length + ys.length) cap) (xs ++ ys) :: ownS R sz w T H2 (.slice (some ⟨b, 0, none⟩) ys.length cap2) ys :: L2) := by
      intro h ⟨h1, h2, p, q, dd, l1, l2⟩
      exact ⟨h1, h2, ⟨cs ++ ds, ⟨(a.mono hl).app (hr.mono hl2), by simpa using hcap⟩, by simpa using p⟩, ((own_shut g3 g1 g2 g4).trans (ownS_mk hr hsm2)) _ q, dd, l1, l2⟩
    refine Sub.trans ?_ (Sub.cons hx.has.from)
    refine Sub.trans ?_ key
    exact Sub.refl _
end
/-- a function value that only asks -/
def Asks (P : Program) (W0 : World) (H : Heap) {α : Type} (R : Rd α) (f : FuncId) (cap : List Value) (V : List Value → Value) (A : List HProp) (p : α → Bool) : Prop :=
  ∀ c x, R H c x → Ct P f (([] ++ [V c]) ++ cap).toArray W0 H A (fun r H' B => r = .bool (p x) ∧ B = A ∧ H' = H)
end Go.Sx
