/- Open regions that store and allocate; a cut behind a region. No program in sight. -/
import Derived.Test.YtnfmjkjhiolfdaaDoorE16
set_option linter.unusedVariables false
set_option linter.unusedSimpArgs false
namespace Go.Sx
open Go
section
variable {P : Program} {n : Nat} {W0 : World} {Q : Exit → Act → World → Prop} {F : Slots} {H H0 : Heap} {L L0 R : List HProp} {ops : Array Oper} {k : List Fr} {op : Op} {ty : TypeId} {pos : String} {aft : Array Edge} {d : Tmp} {g : Option (Nat × Bool)} {gv : Option (Value × Bool)} {v : Value} {m fuel : Nat} {listed : Array Bool} {vs : List Value}
/-- one cell of a thing that is only read -/
theorem gny_ldHo (i o : Nat) {x : Operand} {t : TypeId} {b off : Nat} {cs : List Value} [TAgg P t false] (hi : ops[i]? = some ⟨some d, .load t x, ty, pos, aft, g⟩) (hg : gval ops F g = some gv) [hb : GOk gv true] (hr : HRow H0 b off cs) (hx : opv F x = some (.pointer (some ⟨b, off + o, none⟩))) (hc : cs[o]? = some v) (h : AnyO P n W0 Q ((d, v) :: F) H H0 L L0 m ops fuel (listed.setIfInBounds i true) k)
    (hok : takeOk ops m listed i = true := by decide +kernel) (hQ : ∀ c a w, Kx P Q k (.panic c) (a.put (some d) v) w → Kx P Q k (.panic c) a w := by exact fun _ _ _ h => h)
    (hl : H0.le H := by first | exact Go.Sx.Heap.le.refl _ | assumption | ((try simp only [Go.Sx.le_self] at *); (repeat (first | exact Go.Sx.Heap.le.refl _ | assumption | refine Go.Sx.Heap.le.trans ?_ ‹Go.Sx.Heap.le _ _›)))) (hsub : Sub L L0 := by (repeat (first | exact Go.Sx.Sub.refl _ | exact Go.Sx.Sub.nil _ | (apply Go.Sx.sub_pick; (repeat (first | exact Go.Sx.Has.here | apply Go.Sx.Has.there)); skip) | apply Go.Sx.Sub.drop))) (hd : Nat.blt d n = true := by rfl) : AnyO P n W0 Q F H H0 L L0 m ops (fuel + 1) listed k :=
  gny_pure i hi hg (op_loadH hx (hrow_cell hr o rfl hc)) h hok hQ hl hsub hd
theorem any_n (i : Nat) (hi : ops[i]? = some ⟨none, op, ty, pos, aft, none⟩) (h : OpW P n W0 ⟨none, op, ty, pos, aft, none⟩ F H L (fun v H' L' => H0.le H' ∧ Sub L' L0 ∧ AnyO P n W0 Q F H' H0 L' L0 m ops fuel (listed.setIfInBounds i true) k))
    (hr : Region.ready .any ops listed = [i] := by decide +kernel) : AnyO P n W0 Q F H H0 L L0 m ops (fuel + 1) listed k :=
  ⟨any_one hr (at_none hi (h.mono fun v H' L' _ ⟨a, b, c⟩ => ⟨a, b, c.run⟩))⟩
/-- a store, where no other operation is ready -/
theorem any_sta (i : Nat) {x y : Operand} {t : TypeId} {b off T m' : Nat} {cs us cs' : List Value} [TSz P t m'] (hi : ops[i]? = some ⟨none, .store t x y, ty, pos, aft, none⟩) (hv : opvs F [x, y] = some [.pointer (some ⟨b, off, none⟩), v]) [h : HasRow L b T cs R] [hu : CellsI v us] (hl : us.length = m') (h1 : us.all (·.oneCell') = true) (hle : off + us.length ≤ cs.length) (hcs : cs.take off ++ us ++ cs.drop (off + us.length) = cs')
    (hk : Sub (row b T cs' :: R) L0 ∧ AnyO P n W0 Q F H H0 (row b T cs' :: R) L0 m ops fuel (listed.setIfInBounds i true) k)
    (hl0 : H0.le H := by first | exact Go.Sx.Heap.le.refl _ | assumption | ((try simp only [Go.Sx.le_self] at *); (repeat (first | exact Go.Sx.Heap.le.refl _ | assumption | refine Go.Sx.Heap.le.trans ?_ ‹Go.Sx.Heap.le _ _›)))) (hr : Region.ready .any ops listed = [i] := by decide +kernel) : AnyO P n W0 Q F H H0 L L0 m ops (fuel + 1) listed k := by
  subst hcs
  exact any_n i hi (op_storeAt (opvs2 hv).1 (opvs2 hv).2 hu.h hl h1 h.has hle ⟨hl0, hk.1, hk.2⟩) hr
theorem gny_alloc (i : Nat) {T : TypeId} {us : List Value} [TZL P T us] (hi : ops[i]? = some ⟨some d, .alloc T, ty, pos, aft, g⟩) (hg : gval ops F g = some gv) [hb : GOk gv true] (hk : ∀ b, H b = none → AnyO P n W0 Q ((d, .pointer (some ⟨b, 0, none⟩)) :: F) H H0 (row b T us :: L) L0 m ops fuel (listed.setIfInBounds i true) k)
    (hl : H0.le H := by first | exact Go.Sx.Heap.le.refl _ | assumption | ((try simp only [Go.Sx.le_self] at *); (repeat (first | exact Go.Sx.Heap.le.refl _ | assumption | refine Go.Sx.Heap.le.trans ?_ ‹Go.Sx.Heap.le _ _›)))) (hsub : Sub L L0 := by (repeat (first | exact Go.Sx.Sub.refl _ | exact Go.Sx.Sub.nil _ | (apply Go.Sx.sub_pick; (repeat (first | exact Go.Sx.Has.here | apply Go.Sx.Has.there)); skip) | apply Go.Sx.Sub.drop)))
    (hr : Region.ready .any ops listed = [i] := by decide +kernel) (hd : Nat.blt d n = true := by rfl) : AnyO P n W0 Q F H H0 L L0 m ops (fuel + 1) listed k :=
  gny_w i hi hg (op_alloc fun b hb => ⟨hl, Sub.drop hsub, hk b hb⟩) hr hd
/-- a call and a new variable, whichever comes first -/
theorem any_ca (i j : Nat) {f : FuncId} {l : List Operand} {ts : Array TypeId} {A R : List HProp} {Post : Value → Heap → List HProp → Prop} {T : TypeId} {us : List Value} {d' : Tmp} {ty' : TypeId} {pos' : String} {aft' : Array Edge} [TFn P f] [TZL P T us]
    (hi : ops[i]? = some ⟨some d, .call ⟨.value (.func f), l.toArray, ts⟩, ty, pos, aft, none⟩) (hj : ops[j]? = some ⟨some d', .alloc T, ty', pos', aft', none⟩)
    (ha : opvs F l = some vs) (hs : Ct P f vs.toArray W0 H A Post)
    (hk : ∀ r H' B, H.le H' → Post r H' B → Sub (B ++ R) L0 ∧ AnyO P n W0 Q ((d, r) :: F) H' H0 (B ++ R) L0 m ops fuel (listed.setIfInBounds i true) k)
    (hk2 : ∀ b, H b = none → AnyO P n W0 Q ((d', .pointer (some ⟨b, 0, none⟩)) :: F) H H0 (row b T us :: L) L0 m ops fuel (listed.setIfInBounds j true) k)
    (ht : Take L A R := by repeat (first | exact Go.Sx.Take.nil | (apply Go.Sx.Take.cons; focus (repeat (first | exact Go.Sx.Has.here | apply Go.Sx.Has.there)))))
    (hl : H0.le H := by first | exact Go.Sx.Heap.le.refl _ | assumption | ((try simp only [Go.Sx.le_self] at *); (repeat (first | exact Go.Sx.Heap.le.refl _ | assumption | refine Go.Sx.Heap.le.trans ?_ ‹Go.Sx.Heap.le _ _›)))) (hsub : Sub L L0 := by (repeat (first | exact Go.Sx.Sub.refl _ | exact Go.Sx.Sub.nil _ | (apply Go.Sx.sub_pick; (repeat (first | exact Go.Sx.Has.here | apply Go.Sx.Has.there)); skip) | apply Go.Sx.Sub.drop)))
    (hr : Region.ready .any ops listed = [i, j] := by decide +kernel) (hd : Nat.blt d n = true := by rfl) (hd' : Nat.blt d' n = true := by rfl) : AnyO P n W0 Q F H H0 L L0 m ops (fuel + 1) listed k :=
  any_w2 i j hi hj (op_call (opvs_args ha) hs ht fun r H' B h1 h2 => ⟨hl.trans h1, (hk r H' B h1 h2).1, (hk r H' B h1 h2).2⟩) (op_alloc fun b hb => ⟨hl, Sub.drop hsub, hk2 b hb⟩) hr hd hd'
/-- a piece of code whose ends meet -/
theorem ex_cutk {x y : Code} {σ : Type} (I : σ → Prop) (mF : σ → Slots) (mH : σ → Heap) (mL : σ → List HProp)
    (h : ∀ K : Act → World → Prop, (∀ s, I s → Sat n W0 (mF s) (mH s) (mL s) K) → Ex P n W0 Q F H L x (.cut K :: k)) (h2 : ∀ s, I s → Ex P n W0 Q (mF s) (mH s) (mL s) y k) : Ex P n W0 Q F H L x (.seq y :: k) :=
  ⟨(h (y.wp P (Kx P Q k)) fun s hs => (h2 s hs).run).run⟩
end
end Go.Sx
