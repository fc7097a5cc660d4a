/- Open regions with two new variables. No program in sight. -/
import Derived.Test.YtnfmjkjhiolfdaaDoorE18
set_option linter.unusedVariables false
set_option linter.unusedSimpArgs false
namespace Go.Sx
open Go
section
variable {P : Program} {n : Nat} {W0 : World} {Q : Exit → Act → World → Prop} {F : Slots} {H H0 : Heap} {L L0 R : List HProp} {ops : Array Oper} {k : List Fr} {op : Op} {ty ty' ty2 : TypeId} {pos pos' pos2 : String} {aft aft' aft2 : Array Edge} {d d' d2 : Tmp} {m fuel : Nat} {listed : Array Bool} {vs : List Value} {T T2 : TypeId} {us us2 : List Value}
theorem any_aa (i j : Nat) [TZL P T us] [TZL P T2 us2] (hi : ops[i]? = some ⟨some d', .alloc T, ty', pos', aft', none⟩) (hj : ops[j]? = some ⟨some d2, .alloc T2, ty2, pos2, aft2, none⟩)
    (hk1 : ∀ b, H b = none → AnyO P n W0 Q ((d', .pointer (some ⟨b, 0, none⟩)) :: F) H H0 (row b T us :: L) L0 m ops fuel (listed.setIfInBounds i true) k)
    (hk2 : ∀ b, H b = none → AnyO P n W0 Q ((d2, .pointer (some ⟨b, 0, none⟩)) :: F) H H0 (row b T2 us2 :: L) L0 m ops fuel (listed.setIfInBounds j true) k)
    (hl : H0.le H := by first | exact Go.Sx.Heap.le.refl _ | assumption | ((try simp only [Go.Sx.le_self] at *); (repeat (first | exact Go.Sx.Heap.le.refl _ | assumption | refine Go.Sx.Heap.le.trans ?_ ‹Go.Sx.Heap.le _ _›)))) (hsub : Sub L L0 := by (repeat (first | exact Go.Sx.Sub.refl _ | exact Go.Sx.Sub.nil _ | (apply Go.Sx.sub_pick; (repeat (first | exact Go.Sx.Has.here | apply Go.Sx.Has.there)); skip) | apply Go.Sx.Sub.drop)))
    (hr : Region.ready .any ops listed = [i, j] := by decide +kernel) (hd' : Nat.blt d' n = true := by rfl) (hd2 : Nat.blt d2 n = true := by rfl) : AnyO P n W0 Q F H H0 L L0 m ops (fuel + 1) listed k :=
  any_w2 i j hi hj (op_alloc fun b hb => ⟨hl, Sub.drop hsub, hk1 b hb⟩) (op_alloc fun b hb => ⟨hl, Sub.drop hsub, hk2 b hb⟩) hr hd' hd2
theorem gny_ext (i : Nat) {x : Operand} {j : Nat} {vs : Array Value} {v : Value} {g : Option (Nat × Bool)} {gv : Option (Value × Bool)} (hi : ops[i]? = some ⟨some d, .extract x j, ty, pos, aft, g⟩) (hg : gval ops F g = some gv) [hb : GOk gv true] (hx : opv F x = some (.tuple vs)) (hv : vs.toList[j]? = some v) (h : AnyO P n W0 Q ((d, v) :: F) H H0 L L0 m ops fuel (listed.setIfInBounds i true) k)
    (hok : takeOk ops m listed i = true := by decide +kernel) (hQ : ∀ c a w, Kx P Q k (.panic c) (a.put (some d) v) w → Kx P Q k (.panic c) a w := by exact fun _ _ _ h => h)
    (hl : H0.le H := by first | exact Go.Sx.Heap.le.refl _ | assumption | ((try simp only [Go.Sx.le_self] at *); (repeat (first | exact Go.Sx.Heap.le.refl _ | assumption | refine Go.Sx.Heap.le.trans ?_ ‹Go.Sx.Heap.le _ _›)))) (hsub : Sub L L0 := by (repeat (first | exact Go.Sx.Sub.refl _ | exact Go.Sx.Sub.nil _ | (apply Go.Sx.sub_pick; (repeat (first | exact Go.Sx.Has.here | apply Go.Sx.Has.there)); skip) | apply Go.Sx.Sub.drop))) (hd : Nat.blt d n = true := by rfl) : AnyO P n W0 Q F H H0 L L0 m ops (fuel + 1) listed k :=
  gny_pure i hi hg (op_extract hx (by simpa using hv)) h hok hQ hl hsub hd
theorem any_caa (i j l : Nat) {f : FuncId} {xs : List Operand} {ts : Array TypeId} {A R : List HProp} {Post : Value → Heap → List HProp → Prop} [TFn P f] [TZL P T us] [TZL P T2 us2]
    (hi : ops[i]? = some ⟨some d, .call ⟨.value (.func f), xs.toArray, ts⟩, ty, pos, aft, none⟩) (hj : ops[j]? = some ⟨some d', .alloc T, ty', pos', aft', none⟩) (hl' : ops[l]? = some ⟨some d2, .alloc T2, ty2, pos2, aft2, none⟩)
    (ha : opvs F xs = some vs) (hs : Ct P f vs.toArray W0 H A Post)
    (hk : ∀ r H' B, H.le H' → Post r H' B → Sub (B ++ R) L0 ∧ AnyO P n W0 Q ((d, r) :: F) H' H0 (B ++ R) L0 m ops fuel (listed.setIfInBounds i true) k)
    (hk1 : ∀ b, H b = none → AnyO P n W0 Q ((d', .pointer (some ⟨b, 0, none⟩)) :: F) H H0 (row b T us :: L) L0 m ops fuel (listed.setIfInBounds j true) k)
    (hk2 : ∀ b, H b = none → AnyO P n W0 Q ((d2, .pointer (some ⟨b, 0, none⟩)) :: F) H H0 (row b T2 us2 :: L) L0 m ops fuel (listed.setIfInBounds l true) k)
    (ht : Take L A R := by repeat (first | exact Go.Sx.Take.nil | (apply Go.Sx.Take.cons; focus (repeat (first | exact Go.Sx.Has.here | apply Go.Sx.Has.there)))))
    (hl : H0.le H := by first | exact Go.Sx.Heap.le.refl _ | assumption | ((try simp only [Go.Sx.le_self] at *); (repeat (first | exact Go.Sx.Heap.le.refl _ | assumption | refine Go.Sx.Heap.le.trans ?_ ‹Go.Sx.Heap.le _ _›)))) (hsub : Sub L L0 := by (repeat (first | exact Go.Sx.Sub.refl _ | exact Go.Sx.Sub.nil _ | (apply Go.Sx.sub_pick; (repeat (first | exact Go.Sx.Has.here | apply Go.Sx.Has.there)); skip) | apply Go.Sx.Sub.drop)))
    (hr : Region.ready .any ops listed = [i, j, l] := by decide +kernel) (hd : Nat.blt d n = true := by rfl) (hd' : Nat.blt d' n = true := by rfl) (hd2 : Nat.blt d2 n = true := by rfl) : AnyO P n W0 Q F H H0 L L0 m ops (fuel + 1) listed k :=
  ⟨any_three hr (at_some hi hd ((op_call (opvs_args ha) hs ht fun r H' B h1 h2 => ⟨hl.trans h1, (hk r H' B h1 h2).1, (hk r H' B h1 h2).2⟩ : OpW P n W0 _ F H L (fun v H' L' => H0.le H' ∧ Sub L' L0 ∧ AnyO P n W0 Q ((d, v) :: F) H' H0 L' L0 m ops fuel (listed.setIfInBounds i true) k)).mono fun v H' L' _ ⟨a, b, c⟩ => ⟨a, b, c.run⟩))
    (at_some hj hd' ((op_alloc fun b hb => ⟨hl, Sub.drop hsub, hk1 b hb⟩ : OpW P n W0 _ F H L (fun v H' L' => H0.le H' ∧ Sub L' L0 ∧ AnyO P n W0 Q ((d', v) :: F) H' H0 L' L0 m ops fuel (listed.setIfInBounds j true) k)).mono fun v H' L' _ ⟨a, b, c⟩ => ⟨a, b, c.run⟩))
    (at_some hl' hd2 ((op_alloc fun b hb => ⟨hl, Sub.drop hsub, hk2 b hb⟩ : OpW P n W0 _ F H L (fun v H' L' => H0.le H' ∧ Sub L' L0 ∧ AnyO P n W0 Q ((d2, v) :: F) H' H0 L' L0 m ops fuel (listed.setIfInBounds l true) k)).mono fun v H' L' _ ⟨a, b, c⟩ => ⟨a, b, c.run⟩))⟩
end
end Go.Sx
