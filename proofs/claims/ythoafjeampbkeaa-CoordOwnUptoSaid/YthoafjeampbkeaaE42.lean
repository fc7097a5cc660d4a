/- Lookups in a map that is nil. No program in sight. -/
import Derived.Test.YthoafjeampbkeaaKD
set_option linter.unusedVariables false
set_option linter.unusedSimpArgs false
namespace Go.Sx
open Go Go.Proofs
section
variable {P : Program} {n : Nat} {W0 : World} {Q : Exit → Act → World → Prop} {F : Slots} {H H0 H1 : Heap} {L L0 R : List HProp} {ops : Array Oper} {rest : List Oper} {k : List Fr} {ty : TypeId} {pos : String} {aft : Array Edge} {κ ν : Type} [DecidableEq κ] {ek : κ → Value} {RV : Rd ν} {sz : Nat} [RdOk RV sz] {ag : Bool} {t tk kt et : TypeId} {b : Nat} {ky : κ} {ms : List (κ × ν)} {val : ν → Value} {z : ν} {d : Tmp} {g : Option (Nat × Bool)} {gv : Option (Value × Bool)} {m fuel : Nat} {listed : Array Bool}
theorem op_lkNil {x y : Operand} {kv z : Value} {dst : Option Tmp} {g : Option (Nat × Bool)} [hT : TMap P t kt et] [hV : KeyV ek kv ky] [hK : TKey P kt ek] [hZ : TZ P et z] (hv : opvs F [x, y] = some [.map none, kv]) :
    OpP P n W0 ⟨dst, .lookup t x y false, ty, pos, aft, g⟩ F H L z := op_lk0 (κ := κ) (ek := ek) (k := ky) (kt := kt) (opvs2 hv).1 ((opvs2 hv).2.trans (congrArg some hV.h))
theorem ops_lkNil {q : Bool} {d : Tmp} {g : Option (Nat × Bool)} {gv : Option (Value × Bool)} {x y : Operand} {kv z : Value} [hT : TMap P t kt et] [hV : KeyV ek kv ky] [hK : TKey P kt ek] [hZ : TZ P et z] (hg : gval ops F g = some gv) [hb : GOk gv true] (hv : opvs F [x, y] = some [.map none, kv])
    (hk : Ops P n W0 Q ((d, z) :: F) H L q ops rest k) (hd : Nat.blt d n = true := by rfl) : Ops P n W0 Q F H L q ops (⟨some d, .lookup t x y false, ty, pos, aft, g⟩ :: rest) k := ops_pure hg hd (op_lkNil (κ := κ) (ek := ek) (ky := ky) (kt := kt) hv) hk
theorem gny_lkNil (i : Nat) {m fuel : Nat} {listed : Array Bool} {d : Tmp} {g : Option (Nat × Bool)} {gv : Option (Value × Bool)} {x y : Operand} {kv z : Value} [hT : TMap P t kt et] [hV : KeyV ek kv ky] [hK : TKey P kt ek] [hZ : TZ P et z] (hi : ops[i]? = some ⟨some d, .lookup t x y false, ty, pos, aft, g⟩) (hg : gval ops F g = some gv) [hb : GOk gv true] (hv : opvs F [x, y] = some [.map none, kv])
    (h : AnyO P n W0 Q ((d, z) :: F) H H0 L L0 m ops fuel (listed.setIfInBounds i true) k) (hok : takeOk ops m listed i = true := by decide +kernel) (hQ : ∀ v c a w, Kx P Q k (.panic c) (a.put (some d) v) w → Kx P Q k (.panic c) a w := by exact fun _ _ _ _ h => h)
    (hl : H0.le H := by first | exact Go.Sx.Heap.le.refl _ | assumption | ((try simp only [Go.Sx.le_self] at *); (repeat (first | exact Go.Sx.Heap.le.refl _ | assumption | refine Go.Sx.Heap.le.trans ?_ ‹Go.Sx.Heap.le _ _›)))) (hsub : Sub L L0 := by (repeat (first | exact Go.Sx.Sub.refl _ | exact Go.Sx.Sub.nil _ | (apply Go.Sx.sub_pick; (repeat (first | exact Go.Sx.Has.here | apply Go.Sx.Has.there)); skip) | apply Go.Sx.Sub.drop))) (hd : Nat.blt d n = true := by rfl) : AnyO P n W0 Q F H H0 L L0 m ops (fuel + 1) listed k :=
  gny_pure i hi hg (op_lkNil (κ := κ) (ek := ek) (ky := ky) (kt := kt) hv) h hok (hQ _) hl hsub hd
end
end Go.Sx
