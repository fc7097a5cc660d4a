/- Reads in an open region where nothing else is ready: off the memory of that moment. No program in sight. -/
import Derived.Test.YthoafjeampbkeaaE44
set_option linter.unusedVariables false
set_option linter.unusedSimpArgs false
namespace Go.Sx
open Go
section
variable {P : Program} {n : Nat} {W0 : World} {Q : Exit → Act → World → Prop} {F : Slots} {H H0 : Heap} {L L0 : List HProp} {m fuel : Nat} {ops : Array Oper} {listed : Array Bool} {k : List Fr} {op : Op} {ty : TypeId} {pos : String} {aft : Array Edge} {d : Tmp} {v : Value}
theorem gny_pw (i : Nat) {g : Option (Nat × Bool)} {gv : Option (Value × Bool)} (hi : ops[i]? = some ⟨some d, op, ty, pos, aft, g⟩) (hg : gval ops F g = some gv) [hb : GOk gv true] (hp : OpP P n W0 ⟨some d, op, ty, pos, aft, g⟩ F H L v) (h : AnyO P n W0 Q ((d, v) :: F) H H0 L L0 m ops fuel (listed.setIfInBounds i true) k)
    (hl : H0.le H := by first | exact Go.Sx.Heap.le.refl _ | assumption | ((try simp only [Go.Sx.le_self] at *); (repeat (first | exact Go.Sx.Heap.le.refl _ | assumption | refine Go.Sx.Heap.le.trans ?_ ‹Go.Sx.Heap.le _ _›)))) (hsub : Sub L L0 := by (repeat (first | exact Go.Sx.Sub.refl _ | exact Go.Sx.Sub.nil _ | (apply Go.Sx.sub_pick; (repeat (first | exact Go.Sx.Has.here | apply Go.Sx.Has.there)); skip) | apply Go.Sx.Sub.drop)))
    (hr : Region.ready .any ops listed = [i] := by decide +kernel) (hd : Nat.blt d n = true := by rfl) : AnyO P n W0 Q F H H0 L L0 m ops (fuel + 1) listed k :=
  gny_w i hi hg (hp.toW ⟨hl, hsub, h⟩) hr hd
theorem gny_ixw (i : Nat) {g : Option (Nat × Bool)} {gv : Option (Value × Bool)} {α : Type} {R : Rd α} {sz T : Nat} {t : TypeId} {x y : Operand} {xs : List α} {ii : Int} {j : Nat} {kd : IntKind} [hR : RdOk R sz] [TSl P t T] [TSz P T sz] (hi : ops[i]? = some ⟨some d, .indexAddr t x y, ty, pos, aft, g⟩) (hg : gval ops F g = some gv) [hb : GOk gv true] (hv : opvs F [x, y] = some [v, .int kd ii]) [hin : NatOf ii j]
    (hs : SlR R sz H v xs) (hj : j < xs.length) (h : ∀ b off c, HRow H b off c → R H c (xs[j]'hj) → AnyO P n W0 Q ((d, .pointer (some ⟨b, off, none⟩)) :: F) H H0 L L0 m ops fuel (listed.setIfInBounds i true) k)
    (hl : H0.le H := by first | exact Go.Sx.Heap.le.refl _ | assumption | ((try simp only [Go.Sx.le_self] at *); (repeat (first | exact Go.Sx.Heap.le.refl _ | assumption | refine Go.Sx.Heap.le.trans ?_ ‹Go.Sx.Heap.le _ _›)))) (hsub : Sub L L0 := by (repeat (first | exact Go.Sx.Sub.refl _ | exact Go.Sx.Sub.nil _ | (apply Go.Sx.sub_pick; (repeat (first | exact Go.Sx.Has.here | apply Go.Sx.Has.there)); skip) | apply Go.Sx.Sub.drop)))
    (hr : Region.ready .any ops listed = [i] := by decide +kernel) (hd : Nat.blt d n = true := by rfl) : AnyO P n W0 Q F H H0 L L0 m ops (fuel + 1) listed k := by
  obtain ⟨rfl⟩ := hin
  obtain ⟨base, cap, rfl, h1, h2⟩ := hs.shape
  obtain ⟨b, off, c, rfl, h3, h4, h5⟩ := hs.get hj
  exact gny_pw i hi hg (op_indexAddr (opvs2 hv).1 (opvs2 hv).2 (by omega) (by omega)) (h b _ c h4 h5) hl hsub hr hd
theorem gny_ldw (i o : Nat) {g : Option (Nat × Bool)} {gv : Option (Value × Bool)} {x : Operand} {t : TypeId} {b off : Nat} {cs : List Value} [TAgg P t false] (hi : ops[i]? = some ⟨some d, .load t x, ty, pos, aft, g⟩) (hg : gval ops F g = some gv) [hb : GOk gv true] (hrow : HRow H b off cs) (hx : opv F x = some (.pointer (some ⟨b, off + o, none⟩))) (hc : cs[o]? = some v) (h : AnyO P n W0 Q ((d, v) :: F) H H0 L L0 m ops fuel (listed.setIfInBounds i true) k)
    (hl : H0.le H := by first | exact Go.Sx.Heap.le.refl _ | assumption | ((try simp only [Go.Sx.le_self] at *); (repeat (first | exact Go.Sx.Heap.le.refl _ | assumption | refine Go.Sx.Heap.le.trans ?_ ‹Go.Sx.Heap.le _ _›)))) (hsub : Sub L L0 := by (repeat (first | exact Go.Sx.Sub.refl _ | exact Go.Sx.Sub.nil _ | (apply Go.Sx.sub_pick; (repeat (first | exact Go.Sx.Has.here | apply Go.Sx.Has.there)); skip) | apply Go.Sx.Sub.drop)))
    (hr : Region.ready .any ops listed = [i] := by decide +kernel) (hd : Nat.blt d n = true := by rfl) : AnyO P n W0 Q F H H0 L L0 m ops (fuel + 1) listed k :=
  gny_pw i hi hg (op_loadH hx (hrow.cell hc)) h hl hsub hr hd
end
end Go.Sx
