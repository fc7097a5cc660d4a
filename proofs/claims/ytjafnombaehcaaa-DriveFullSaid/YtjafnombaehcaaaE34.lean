/- delete, off an owned map. No program in sight. -/
import Derived.Test.YtjafnombaehcaaaE33
set_option linter.unusedVariables false
set_option linter.unusedSimpArgs false
namespace Go.Sx
open Go
section
variable {P : Program} {n : Nat} {W0 : World} {Q : Exit → Act → World → Prop} {F : Slots} {H H0 : Heap} {L R : List HProp} {ops : Array Oper} {rest : List Oper} {k : List Fr} {ty : TypeId} {pos : String} {aft : Array Edge} {κ ν : Type} [DecidableEq κ] {ek : κ → Value} {RV : Rd ν} {sz : Nat} [RdOk RV sz] {ag : Bool} {t tk kt et : TypeId} {b : Nat} {ky : κ} {ms : List (κ × ν)}
theorem ops_delete {x y : Operand} {kv : Value} [hT : TMap P t kt et] [hV : KeyV ek kv ky] [hK : TKey P kt ek] (hv : opvs F [x, y] = some [.map (some b), kv]) (hh : Has L (mapO ek RV ag H0 b ms) R)
    (hk : Ops P n W0 Q F H (mapO ek RV ag H0 b (mdel ky ms) :: R) false ops rest k) : Ops P n W0 Q F H L false ops (⟨none, .call ⟨.builtin .delete, #[x, y], #[t, tk]⟩, ty, pos, aft, none⟩ :: rest) k :=
  ops_n (op_delete (opvs2 hv).1 ((opvs2 hv).2.trans (congrArg some hV.h)) hh hk)
/-- how many an owned map has -/
theorem ops_mlen {x : Operand} {d : Tmp} {g : Option (Nat × Bool)} {gv : Option (Value × Bool)} {q : Bool} [hT : TMap P t kt et] (hg : gval ops F g = some gv) [hb : GOk gv true] (hx : opv F x = some (.map (some b))) (hh : Has L (mapO ek RV ag H0 b ms) R)
    (hk : Ops P n W0 Q ((d, .int .i64 ms.length) :: F) H L q ops rest k) (hd : Nat.blt d n = true := by rfl) : Ops P n W0 Q F H L q ops (⟨some d, .call ⟨.builtin .len, #[x], #[t]⟩, ty, pos, aft, g⟩ :: rest) k :=
  ops_pure hg hd (op_mlen hx hh) hk
end
end Go.Sx
