/- Room made ahead; capacities. No program in sight. -/
import Derived.Test.YtnfmjkjhiolfdaaDoorE12
import Derived.Lib.AppendZeros
set_option linter.unusedVariables false
set_option linter.unusedSimpArgs false
namespace Go.Sx
open Go
instance {P : Program} {x : Operand} {T e : TypeId} {base : Option Addr} {m c : Nat} [hT : TSl P T e] : POp P (.call ⟨.builtin .cap, #[x], #[T]⟩) [.slice base m c] True (.int .i64 c) := ⟨fun _ h => .mk fun a w hF _ => by
  simp only [execOp, resolve]
  simp [invoke, builtin, Builtin.cap_, run_underlying hT.und, hF.opv (opvs1 h), goInt]⟩
section
variable {P : Program} {c x y : Operand}
instance (priority := low) {b b2 : Bool} : POp P (.pick c x y) [.bool b, gd (b = true) (.bool b2), .bool false] True (.bool (@decide (b = true ∧ b2 = true) inferInstance)) := ⟨fun {n W0 F H L dst ty pos aft g} _ h => by
  cases b with
  | true => exact (op_pickT (v := gd (true = true) (.bool b2)) (by rw [(opvs3 h).1]) (opvs3 h).2.1).cast (by rw [gd_T rfl]; simp)
  | false => exact (op_pickF (v := .bool false) (by rw [(opvs3 h).1]) (opvs3 h).2.2).cast (by simp)⟩
instance (priority := low) {b b2 : Bool} : POp P (.pick c x y) [.bool b, .bool true, gd (b = false) (.bool b2)] True (.bool (@decide (b = true ∨ b2 = true) inferInstance)) := ⟨fun {n W0 F H L dst ty pos aft g} _ h => by
  cases b with
  | true => exact (op_pickT (v := .bool true) (by rw [(opvs3 h).1]) (opvs3 h).2.1).cast (by simp)
  | false => exact (op_pickF (v := gd (false = false) (.bool b2)) (by rw [(opvs3 h).1]) (opvs3 h).2.2).cast (by rw [gd_T rfl]; simp)⟩
end
section
variable {P : Program} {n : Nat} {W0 : World} {F : Slots} {H : Heap} {L : List HProp} {K : Value → Heap → List HProp → Prop} {dst : Option Tmp} {ty : TypeId} {pos : String} {aft : Array Edge} {g : Option (Nat × Bool)}
/-- append([]T(nil), make([]T, m)...) -/
theorem op_zapp {t tn e : TypeId} {sz by_ : Nat} {z : Value} {s x : Operand} {m : Nat} {kd kn : IntKind} [hT : TSl P t e] [hI : TIn P e sz by_ z] [hN : TIt P tn kn] (hs : opv F s = some (.slice none 0 0)) (hx : opv F x = some (.int kd m)) (hm : 0 < m) (hb : m * by_ ≤ 140737488355328) (h63 : m ≤ 140737488355328)
    (hk : ∀ b cap cs, m ≤ cap → cap ≤ 9223372036854775807 → cs.length = cap * sz → K (.slice (some ⟨b, 0, none⟩) m cap) H (row b e cs :: L)) : OpW P n W0 ⟨dst, .call ⟨.builtin .append, #[s, x], #[t, tn]⟩, ty, pos, aft, g⟩ F H L K :=
  .of_run fun a w hF hS => by
    obtain ⟨i, hi, hsz, hby, hz, hzs, hpos⟩ := hI.ex
    subst hsz; subst hby
    have hr := Go.Lib.run_append_nil_zeros (P := P) (ty := ty) w t tn e i z kd kn hT.und hN.und hi hz m hm hpos (by omega) (by omega)
    have hge := grownCap_ge w m 0 e
    have hcm : grownCap w m 0 e ≤ maxLen := grownCap_le_maxLen w m 0 e (by simp only [maxLen]; omega)
    have hS3 : St W0 H w.drew L := hS.keep (hS.env.of rfl rfl rfl) rfl
    have h4 := hS3.alloc (w' := w.drew.alloc (.cells (Builtin.zeroCells z.cells m ++ Builtin.zeroCells z.cells (grownCap w m 0 e - m)) e)) (hS3.env.of rfl rfl rfl) rfl
    refine ⟨_, H, _, w.drew.alloc (.cells (Builtin.zeroCells z.cells m ++ Builtin.zeroCells z.cells (grownCap w m 0 e - m)) e), ?_, .refl _, hk w.heap.size (grownCap w m 0 e) (Builtin.zeroCells z.cells m ++ Builtin.zeroCells z.cells (grownCap w m 0 e - m)).toList hge hcm ?_, ?_⟩
    · simp only [execOp, resolve]
      simp [invoke, builtin, hF.opv hs, hF.opv hx, hr]
    · simp only [Array.toList_append, List.length_append, Array.length_toList, zeroCells_len, hzs]
      rw [← Nat.add_mul]; congr 1; omega
    · have e2 : ∀ a : Array Value, a.toList.toArray = a := fun a => by simp
      unfold row; rw [e2]; exact h4
end
theorem any_frzR {P : Program} {n : Nat} {W0 : World} {Q : Exit → Act → World → Prop} {F : Slots} {H H0 : Heap} {L L0 R : List HProp} {m fuel : Nat} {ops : Array Oper} {listed : Array Bool} {k : List Fr} {b : Nat} {T : TypeId} {cs : List Value} (hh : Has L (row b T cs) R) (h : ∀ H', H.le H' → HRow H' b 0 cs → AnyO P n W0 Q F H' H0 R L0 m ops fuel listed k) : AnyO P n W0 Q F H H0 L L0 m ops fuel listed k :=
  ⟨sat_frz hh fun _ hl => (h _ hl row_hrow).run⟩
section
variable {α : Type} {R : Rd α} {sz w T : Nat} {H : Heap} {b cap : Nat} {cs : List Value} {L : List HProp}
/-- a row, empty as a slice -/
theorem own_room (hc : cs.length = cap * sz) (h2 : cap ≤ 9223372036854775807) : Sub (row b T cs :: L) (ownS R sz w T H (.slice (some ⟨b, 0, none⟩) 0 cap) ([] : List α) :: L) :=
  (own_shut (xs := []) (sp := cs) (m := 0) (by simp) (Nat.zero_le _) h2 (by simpa using hc)).trans (ownS_mk (xs := []) rfl (by simp))
end
section
variable {P : Program} {n : Nat} {W0 : World} {Q : Exit → Act → World → Prop} {F : Slots} {H : Heap} {L : List HProp} {ops : Array Oper} {rest : List Oper} {k : List Fr} {ty : TypeId} {pos : String} {aft : Array Edge} {d : Tmp} {g : Option (Nat × Bool)} {gv : Option (Value × Bool)}
theorem ops_zapp {t tn e : TypeId} {sz by_ : Nat} {z : Value} {s x : Operand} {m : Nat} {kd kn : IntKind} [hT : TSl P t e] [hI : TIn P e sz by_ z] [hN : TIt P tn kn] (hg : gval ops F g = some gv) [hb : GOk gv true] (hv : opvs F [s, x] = some [.slice none 0 0, .int kd m]) (hm : 0 < m) (hb : m * by_ ≤ 140737488355328) (h63 : m ≤ 140737488355328)
    (hk : ∀ b cap cs, m ≤ cap → cap ≤ 9223372036854775807 → cs.length = cap * sz → Ops P n W0 Q ((d, .slice (some ⟨b, 0, none⟩) m cap) :: F) H (row b e cs :: L) false ops rest k) (hd : Nat.blt d n = true := by rfl) : Ops P n W0 Q F H L false ops (⟨some d, .call ⟨.builtin .append, #[s, x], #[t, tn]⟩, ty, pos, aft, g⟩ :: rest) k :=
  ops_w hg hd (op_zapp (opvs2 hv).1 (opvs2 hv).2 hm hb h63 hk)
end
end Go.Sx
