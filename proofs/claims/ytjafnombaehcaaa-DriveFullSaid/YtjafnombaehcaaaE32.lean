/- Texts made of bytes that are only read; texts put together. No program in sight. -/
import Derived.Test.YtjafnombaehcaaaE31
set_option linter.unusedVariables false
set_option linter.unusedSimpArgs false
namespace Go.Sx
open Go
/-- the text of these bytes, as numbers -/
def tx (ns : List Int) : ByteArray := sb (ns.map fun n => UInt8.ofNat n.toNat)
theorem tx_size (ns : List Int) : (tx ns).size = ns.length := by rw [tx, sb_size, List.length_map]
theorem tx_app (a b : List Int) : tx a ++ tx b = tx (a ++ b) := by simp only [tx]; rw [sb_append, List.map_append]
theorem rows_u8 {H : Heap} : ∀ {cs : List Value} {ns : List Int}, RL (rNum .u8) H cs ns → cs = ns.map (Value.int .u8)
  | _, [], h => by rw [show _ = [] from h]; rfl
  | _, n :: ns, ⟨c, r, e, ⟨h1, _⟩, h2⟩ => by rw [e, h1, rows_u8 h2]; rfl
section
variable {P : Program} {n : Nat} {W0 : World} {Q : Exit → Act → World → Prop} {F : Slots} {H : Heap} {L R : List HProp} {ops : Array Oper} {rest : List Oper} {k : List Fr} {ty : TypeId} {pos : String} {aft : Array Edge} {d : Tmp} {g : Option (Nat × Bool)} {gv : Option (Value × Bool)} {dst : Option Tmp}
/-- string([]byte), off bytes that are only read -/
theorem op_b2sS {src dt e : TypeId} {x : Operand} {v : Value} {ns : List Int} [hT : TSl P src e] [hE : TIt P e .u8] [hD : TSt P dt] (hx : opv F x = some v) (hs : SlR (rNum .u8) 1 H v ns) :
    OpP P n W0 ⟨dst, .convert src dt x, ty, pos, aft, g⟩ F H L (.string (tx ns)) := .mk fun a w hF hS => by
  obtain ⟨cs, hc, hr⟩ := hs
  have hcs := rows_u8 hr
  simp only [execOp, hF.opv hx]
  by_cases h0 : ns = []
  · subst h0
    obtain ⟨base, cap, rfl, _, _⟩ := hc.shape
    have hcv := run_convert_bytes_string (P := P) w src dt e base 0 cap hT.und hE.und hD.und
    have h5 : (convert src dt (.slice base 0 cap)).run P w = .ok (.string (tx [])) w := by
      rw [hcv]
      cases base with
      | none => rfl
      | some ad =>
        have h2 : (loadCells ad 0).run P w = .ok (([] : List Int).map (Value.int .u8)).toArray w := by rfl
        exact run_bytesToString (P := P) w ad 0 cap [] h2
    simp [h5]
  · obtain ⟨b, off, cap, rfl, _, _, hrow⟩ := hc.cases (List.length_pos_iff.2 h0)
    have h1 : ∀ j u, (ns.map fun n => Value.int .u8 n)[j]? = some u → w.cell? ((⟨b, off, none⟩ : Addr).add j) = some u := fun j u hj => by
      rw [Addr.add_lit]
      have := hrow j u (by rw [hcs]; exact hj)
      exact hS.hcell this
    have h2 := run_loadCells_list (P := P) w ⟨b, off, none⟩ _ h1
    simp only [List.length_map] at h2
    have h3 := run_bytesToString (P := P) w ⟨b, off, none⟩ ns.length cap ns h2
    rw [foldl_push] at h3
    have h4 : (ByteArray.empty ++ sb (ns.map fun n => UInt8.ofNat n.toNat)) = tx ns := by simp [tx]
    rw [h4] at h3
    simp [run_convert_bytes_string w src dt e _ _ _ hT.und hE.und hD.und, h3]
/-- two texts put together -/
theorem ops_catS {x y : Operand} {T T' : TypeId} {s t : ByteArray} {q : Bool} (hg : gval ops F g = some gv) [hb : GOk gv true] (hv : opvs F [x, y] = some [.string s, .string t]) (hz : s.size + t.size ≤ 9223372036854775807)
    (hk : Ops P n W0 Q ((d, .string (s ++ t)) :: F) H L q ops rest k) (hd : Nat.blt d n = true := by rfl) : Ops P n W0 Q F H L q ops (⟨some d, .binOp .add T x y T', ty, pos, aft, g⟩ :: rest) k :=
  ops_pure hg hd (.mk fun A w hF _ => by
    simp only [execOp, hF.opv (opvs2 hv).1, hF.opv (opvs2 hv).2]
    have h3 : ¬ ((9223372036854775807 : Int) < (s.size : Int) + (t.size : Int)) := by omega
    have hm : IntKind.i64.max = 9223372036854775807 := by decide
    have h6 : ¬ ((s.size + t.size : Nat) : Int) > IntKind.i64.max := by rw [hm]; omega
    have h4 : (Op.stringOp .add s t).run P w = .ok (.string (s ++ t)) w := by
      simp only [Op.stringOp]; rw [if_neg h6]; rfl
    simp [go_sem, h4]) hk
/-- string([]byte) -/
theorem ops_b2sS {src dt e : TypeId} {x : Operand} {v : Value} {ns : List Int} {q : Bool} [hT : TSl P src e] [hE : TIt P e .u8] [hD : TSt P dt] (hg : gval ops F g = some gv) [hb : GOk gv true] (hx : opv F x = some v) (hs : SlR (rNum .u8) 1 H v ns)
    (hk : Ops P n W0 Q ((d, .string (tx ns)) :: F) H L q ops rest k) (hd : Nat.blt d n = true := by rfl) : Ops P n W0 Q F H L q ops (⟨some d, .convert src dt x, ty, pos, aft, g⟩ :: rest) k :=
  ops_pure hg hd (op_b2sS hx hs) hk
end
end Go.Sx
