/- Labels and scopes that nothing jumps in. No program in sight. -/
import Derived.Test.YtjafnombaehcaaaE30
import Derived.Scope
set_option linter.unusedVariables false
set_option linter.unusedSimpArgs false
namespace Go.Sx
open Go
section
variable {P : Program} {n : Nat} {W0 : World} {Q : Exit → Act → World → Prop} {F : Slots} {H : Heap} {L : List HProp} {k k' : List Fr} {c : Code}
theorem ex_label {l : Nat} (h : Out P n W0 Q F H L .normal k) : Ex P n W0 Q F H L (.label l) k := ⟨fun a w hF hS => wp_label (h.run a w hF hS)⟩
/-- a scope: what stands behind it is kept in the condition; `out_scope` where its code ends, `out_scope_ret` where the function does -/
theorem ex_scope (h : Ex P n W0 (Exit.noGoto (Kx P Q k)) F H L c []) : Ex P n W0 Q F H L (.scope c) k := ⟨fun a w hF hS => wp_scope_straight (h.run a w hF hS)⟩
theorem out_scope (h : Out P n W0 Q F H L .normal k) : Out P n W0 (Exit.noGoto (Kx P Q k)) F H L .normal [] := ⟨fun a w hF hS => h.run a w hF hS⟩
theorem kx_ret : ∀ (k : List Fr) {a : Act} {w : World}, Q .ret a w → Kx P Q k .ret a w
  | [], _, _, h => h
  | .seq _ :: k, _, _, h => kx_ret k h
  | .blk _ :: k, _, _, h => kx_ret k h
  | .cut _ :: k, _, _, h => kx_ret k h
theorem out_scope_ret (h : Out P n W0 Q F H L .ret k) : Out P n W0 (Exit.noGoto (Kx P Q k)) F H L .ret k' :=
  ⟨fun a w hF hS => kx_ret k' (h.run a w hF hS)⟩
end
section
variable {P : Program} {n : Nat} {W0 : World} {Q : Exit → Act → World → Prop} {F : Slots} {H H0 : Heap} {L R : List HProp} {k : List Fr} {c : Code} {ops : Array Oper} {rest : List Oper} {κ ν : Type} {ek : κ → Value} {RV : Rd ν} {ag : Bool} {ms : List (κ × ν)} {b : Nat}
theorem ex_frzMap {sz : Nat} [RdOk RV sz] (hh : Has L (mapO ek RV ag H0 b ms) R) (hl0 : H0.le H) (h : ∀ H', H.le H' → mapH ek RV ag H' b ms → Ex P n W0 Q F H' R c k) : Ex P n W0 Q F H L c k := ⟨sat_frzM hh hl0 fun H' hl hm => (h H' hl hm).run⟩
theorem ops_frzMap {sz : Nat} [RdOk RV sz] (hh : Has L (mapO ek RV ag H0 b ms) R) (hl0 : H0.le H) (h : ∀ H', H.le H' → mapH ek RV ag H' b ms → Ops P n W0 Q F H' R false ops rest k) : Ops P n W0 Q F H L false ops rest k := ⟨sat_frzM hh hl0 fun H' hl hm => (h H' hl hm).run⟩
end
end Go.Sx
