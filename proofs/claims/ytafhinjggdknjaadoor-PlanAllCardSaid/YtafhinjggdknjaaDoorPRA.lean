/- Keys as the program writes them. -/
import Derived.Test.YtafhinjggdknjaaDoorPEP
import Derived.Test.YtafhinjggdknjaaDoorPGL
import Derived.Test.YtafhinjggdknjaaDoorPLF
set_option linter.unusedVariables false
set_option linter.unusedSimpArgs false
namespace Go.Proofs.YtafhinjggdknjaaDoor
open Go Go.Sx Go.X Go.Proofs
abbrev U8 (z : Int) : Value := .int .u8 z
theorem wrap_u32 {m : Nat} (h : m < 4294967296) : IntKind.u32.wrap (m : Int) = m := by simp [IntKind.wrap, IntKind.bits, IntKind.signed]; omega
theorem wrap_u64 {m : Nat} (h : m < 18446744073709551616) : IntKind.u64.wrap (m : Int) = m := by simp [IntKind.wrap, IntKind.bits, IntKind.signed]; omega
section
variable {P : Program} {n : NF} {F : Slots} {H : Heap} {L : List HProp} {dst : Option Tmp} {ty : TypeId} {pos : String} {aft : Array Edge} {g : Option (Nat × Bool)} {x y : Operand} {a : Nat} {T T' : TypeId}
theorem op_n1 (hx : opv F x = some (.int .u64 (a : Int))) (hy : opv F y = some (.int .u64 100000000)) (s : a < 4294967296) : OpP P n ⟨dst, .binOp .quo T x y T', ty, pos, aft, g⟩ F H L (.int .u64 ((a / 100000000 : Nat) : Int)) :=
  .mk fun _ w hF _ => by
    have e : (a : Int).tdiv 100000000 = ((a / 100000000 : Nat) : Int) := rfl
    simp only [execOp, hF.opv hx, hF.opv hy]; simp [go_sem, Op.intDiv, e, -Int.natCast_ediv, wrap_u64 (m := a / 100000000) (by omega)]
instance : POp P (.binOp .quo T x y T') [.int .u64 (a : Int), .int .u64 100000000] (a < 4294967296) (.int .u64 ((a / 100000000 : Nat) : Int)) := ⟨fun s h => op_n1 (opvs2 h).1 (opvs2 h).2 s⟩
theorem op_n2 (hx : opv F x = some (.int .u64 (a : Int))) (hy : opv F y = some (.int .u64 100000000)) (s : True) : OpP P n ⟨dst, .binOp .rem T x y T', ty, pos, aft, g⟩ F H L (.int .u64 ((a % 100000000 : Nat) : Int)) :=
  .mk fun _ w hF _ => by
    have e : (a : Int).tmod 100000000 = ((a % 100000000 : Nat) : Int) := rfl
    simp only [execOp, hF.opv hx, hF.opv hy]; simp [go_sem, Op.intDiv, e, -Int.natCast_emod]
instance : POp P (.binOp .rem T x y T') [.int .u64 (a : Int), .int .u64 100000000] (True) (.int .u64 ((a % 100000000 : Nat) : Int)) := ⟨fun s h => op_n2 (opvs2 h).1 (opvs2 h).2 s⟩
theorem op_n3 (hx : opv F x = some (.int .u32 (a : Int))) (hy : opv F y = some (.int .u32 100)) (s : a < 4294967296) : OpP P n ⟨dst, .binOp .quo T x y T', ty, pos, aft, g⟩ F H L (.int .u32 ((a / 100 : Nat) : Int)) :=
  .mk fun _ w hF _ => by
    have e : (a : Int).tdiv 100 = ((a / 100 : Nat) : Int) := rfl
    simp only [execOp, hF.opv hx, hF.opv hy]; simp [go_sem, Op.intDiv, e, -Int.natCast_ediv, wrap_u32 (m := a / 100) (by omega)]
instance : POp P (.binOp .quo T x y T') [.int .u32 (a : Int), .int .u32 100] (a < 4294967296) (.int .u32 ((a / 100 : Nat) : Int)) := ⟨fun s h => op_n3 (opvs2 h).1 (opvs2 h).2 s⟩
theorem op_n4 (hx : opv F x = some (.int .u32 (a : Int))) (hy : opv F y = some (.int .u32 100)) (s : True) : OpP P n ⟨dst, .binOp .rem T x y T', ty, pos, aft, g⟩ F H L (.int .u32 ((a % 100 : Nat) : Int)) :=
  .mk fun _ w hF _ => by
    have e : (a : Int).tmod 100 = ((a % 100 : Nat) : Int) := rfl
    simp only [execOp, hF.opv hx, hF.opv hy]; simp [go_sem, Op.intDiv, e, -Int.natCast_emod]
instance : POp P (.binOp .rem T x y T') [.int .u32 (a : Int), .int .u32 100] (True) (.int .u32 ((a % 100 : Nat) : Int)) := ⟨fun s h => op_n4 (opvs2 h).1 (opvs2 h).2 s⟩
theorem op_n5 (hx : opv F x = some (.int .u32 (a : Int))) (hy : opv F y = some (.int .u32 10000)) (s : a < 4294967296) : OpP P n ⟨dst, .binOp .quo T x y T', ty, pos, aft, g⟩ F H L (.int .u32 ((a / 10000 : Nat) : Int)) :=
  .mk fun _ w hF _ => by
    have e : (a : Int).tdiv 10000 = ((a / 10000 : Nat) : Int) := rfl
    simp only [execOp, hF.opv hx, hF.opv hy]; simp [go_sem, Op.intDiv, e, -Int.natCast_ediv, wrap_u32 (m := a / 10000) (by omega)]
instance : POp P (.binOp .quo T x y T') [.int .u32 (a : Int), .int .u32 10000] (a < 4294967296) (.int .u32 ((a / 10000 : Nat) : Int)) := ⟨fun s h => op_n5 (opvs2 h).1 (opvs2 h).2 s⟩
theorem op_n6 (hx : opv F x = some (.int .u32 (a : Int))) (hy : opv F y = some (.int .u32 10000)) (s : True) : OpP P n ⟨dst, .binOp .rem T x y T', ty, pos, aft, g⟩ F H L (.int .u32 ((a % 10000 : Nat) : Int)) :=
  .mk fun _ w hF _ => by
    have e : (a : Int).tmod 10000 = ((a % 10000 : Nat) : Int) := rfl
    simp only [execOp, hF.opv hx, hF.opv hy]; simp [go_sem, Op.intDiv, e, -Int.natCast_emod]
instance : POp P (.binOp .rem T x y T') [.int .u32 (a : Int), .int .u32 10000] (True) (.int .u32 ((a % 10000 : Nat) : Int)) := ⟨fun s h => op_n6 (opvs2 h).1 (opvs2 h).2 s⟩
theorem op_n7 (hx : opv F x = some (.int .u32 (a : Int))) (hy : opv F y = some (.int .u32 2)) (s : a * 2 < 4294967296) : OpP P n ⟨dst, .binOp .mul T x y T', ty, pos, aft, g⟩ F H L (.int .u32 ((a * 2 : Nat) : Int)) :=
  .mk fun _ w hF _ => by
    have e : (a : Int) * 2 = ((a * 2 : Nat) : Int) := by omega
    simp only [execOp, hF.opv hx, hF.opv hy]; simp [go_sem, Op.intArith, e, -Int.natCast_mul, -Int.natCast_add, wrap_u32 s]
instance : POp P (.binOp .mul T x y T') [.int .u32 (a : Int), .int .u32 2] (a * 2 < 4294967296) (.int .u32 ((a * 2 : Nat) : Int)) := ⟨fun s h => op_n7 (opvs2 h).1 (opvs2 h).2 s⟩
theorem op_n8 (hx : opv F x = some (.int .u32 (a : Int))) (hy : opv F y = some (.int .u32 1)) (s : a + 1 < 4294967296) : OpP P n ⟨dst, .binOp .add T x y T', ty, pos, aft, g⟩ F H L (.int .u32 ((a + 1 : Nat) : Int)) :=
  .mk fun _ w hF _ => by
    have e : (a : Int) + 1 = ((a + 1 : Nat) : Int) := by omega
    simp only [execOp, hF.opv hx, hF.opv hy]; simp [go_sem, Op.intArith, e, -Int.natCast_mul, -Int.natCast_add, wrap_u32 s]
instance : POp P (.binOp .add T x y T') [.int .u32 (a : Int), .int .u32 1] (a + 1 < 4294967296) (.int .u32 ((a + 1 : Nat) : Int)) := ⟨fun s h => op_n8 (opvs2 h).1 (opvs2 h).2 s⟩
theorem op_n9 (hx : opv F x = some (.int .u32 48)) (hy : opv F y = some (.int .u32 (a : Int))) (s : 48 + a < 4294967296) : OpP P n ⟨dst, .binOp .add T x y T', ty, pos, aft, g⟩ F H L (.int .u32 ((48 + a : Nat) : Int)) :=
  .mk fun _ w hF _ => by
    have e : 48 + (a : Int) = ((48 + a : Nat) : Int) := by omega
    simp only [execOp, hF.opv hx, hF.opv hy]; simp [go_sem, Op.intArith, e, -Int.natCast_mul, -Int.natCast_add, wrap_u32 s]
instance : POp P (.binOp .add T x y T') [.int .u32 48, .int .u32 (a : Int)] (48 + a < 4294967296) (.int .u32 ((48 + a : Nat) : Int)) := ⟨fun s h => op_n9 (opvs2 h).1 (opvs2 h).2 s⟩
instance [TIt P T .u64] [TIt P T' .u32] : POp P (.convert T T' x) [.int .u64 (a : Int)] (a < 4294967296) (.int .u32 (a : Int)) := ⟨fun s h => (op_conv (k' := .u32) (opvs1 h)).cast (by rw [wrap_u32 s])⟩
instance [TIt P T .u32] [TIt P T' .u8] : POp P (.convert T T' x) [.int .u32 (a : Int)] (a < 256) (.int .u8 (a : Int)) := ⟨fun s h => (op_conv (k' := .u8) (opvs1 h)).cast (by rw [wrap_u8 s])⟩
end
section
variable {P : Program} {n : NF} {F : Slots} {H : Heap} {L : List HProp} {dst : Option Tmp} {ty : TypeId} {pos : String} {aft : Array Edge} {g : Option (Nat × Bool)} {x y : Operand} {T : TypeId}
theorem op_ixK {e : TypeId} {b off m c j o : Nat} {i : Int} {kd : IntKind} [TSl P T e] [TSz P e 1] (hx : opv F x = some (.slice (some ⟨b, off, none⟩) m c)) (hy : opv F y = some (.int kd i)) (hi : i = j) (hj : j < m) (ho : off + j = o) :
    OpP P n ⟨dst, .indexAddr T x y, ty, pos, aft, g⟩ F H L (.pointer (some ⟨b, o, none⟩)) :=
  (op_indexAddr (i := i) (sz := 1) hx hy (by omega) (by omega)).cast (by subst hi ho; rw [Int.toNat_natCast, Nat.mul_one])
def goodSm (s : ByteArray) : Bool := (List.range 100).all fun i => s[i * 2]? == some (UInt8.ofNat (48 + i / 10)) && s[i * 2 + 1]? == some (UInt8.ofNat (48 + i % 10))
theorem op_sm0 {s : ByteArray} {q : Nat} {kd : IntKind} [TSt P T] (hx : opv F x = some (.string s)) (hy : opv F y = some (.int kd ((q * 2 : Nat) : Int))) (hs : goodSm s = true) (hq : q < 100) :
    OpP P n ⟨dst, .index T x y, ty, pos, aft, g⟩ F H L (U8 ((48 + q / 10 : Nat) : Int)) := by
  have h1 := List.all_eq_true.1 hs q (List.mem_range.2 hq)
  simp only [Bool.and_eq_true, beq_iff_eq] at h1
  refine (op_indexS hx hy h1.1).cast ?_
  rw [UInt8.toNat_ofNat', Nat.mod_eq_of_lt (by omega)]
theorem op_sm1 {s : ByteArray} {q : Nat} {kd : IntKind} [TSt P T] (hx : opv F x = some (.string s)) (hy : opv F y = some (.int kd ((q * 2 + 1 : Nat) : Int))) (hs : goodSm s = true) (hq : q < 100) :
    OpP P n ⟨dst, .index T x y, ty, pos, aft, g⟩ F H L (U8 ((48 + q % 10 : Nat) : Int)) := by
  have h1 := List.all_eq_true.1 hs q (List.mem_range.2 hq)
  simp only [Bool.and_eq_true, beq_iff_eq] at h1
  refine (op_indexS hx hy h1.2).cast ?_
  rw [UInt8.toNat_ofNat', Nat.mod_eq_of_lt (by omega)]
end
theorem pair_cells {z v0 v1 : Value} {ys tail : List Value} {k : Nat} (h : ys.length = k + 2) :
    ((z :: (ys ++ tail)).set (k + 2) v1).take (k + 1) ++ [v0] ++ ((z :: (ys ++ tail)).set (k + 2) v1).drop (k + 1 + [v0].length) = z :: (ys.take k ++ (v0 :: v1 :: tail)) := by
  have hd : (ys.drop k).length = 2 := by simp; omega
  have hl : (ys.take k).length = k := by simp; omega
  match hh : ys.drop k, hd with
  | [a, c], _ =>
    have e : ys = ys.take k ++ [a, c] := by rw [← hh, List.take_append_drop]
    generalize ys.take k = l at *
    subst e hl
    simp [List.set_append, List.take_append, List.drop_append]
set_option maxHeartbeats 8000000 in
theorem format10_spec {W0 : GW} {H : Heap} {n d b cap T : Nat} {z : Value} {zs sp : List Value} (hz : zs.length = d) (hd : d ≤ 10) (h1 : n < 10 ^ d) (hn : n < 4294967296) :
    Ct Tryd.prog 84 #[.slice (some ⟨b, 1, none⟩) d cap, .int .u64 n] W0 H [row b T (z :: (zs ++ sp))] (fun r H' B => r = .tuple #[] ∧ H' = H ∧ B = [row b T (z :: ((WD d n).map U8 ++ sp))]) := by
  refine Ct.go fun R => ?_
  refine walk ?_
  refine ex_loop (σ := Nat × Nat × List Value × List Int) (fun s => s.2.2.1.length = s.1 ∧ s.1 ≤ d ∧ s.2.1 < 10 ^ s.1 ∧ s.2.1 < 4294967296 ∧ WD d n = WD s.1 s.2.1 ++ s.2.2.2) (fun s => [(4, I s.1), (1, .int .u64 s.2.1), (0, .slice (some ⟨b, 1, none⟩) d cap)]) (fun _ => H) (fun s => row b T (z :: (s.2.2.1 ++ (s.2.2.2.map U8 ++ sp))) :: R) (fun s => s.1) (d, n, zs, []) ⟨hz, Nat.le_refl _, h1, hn, by simp⟩ fun ⟨m, u, ys, ts⟩ ⟨g1, g2, g3, g4, g5⟩ K hL => ?_
  simp only at g1 g2 g3 g4 g5
  dsimp only
  refine walk ?_
  refine ex_if rfl (fun h8 => ?_) (fun h8 => ?_)
  · obtain ⟨q, rfl⟩ : ∃ q, m = q + 8 := ⟨m - 8, by omega⟩
    refine walk ?_
    refine ex_quietN (b := b) (off := (q + 6) + 2) (v := U8 ((48 + (u % 100000000 % 10000 % 100) % 10 : Nat) : Int)) 12 rfl rfl (by simp [g1]; omega) ?_
    refine .p rfl (.p rfl (.p rfl (.p rfl (.p rfl (.p rfl (.p rfl (.p rfl ?_)))))))
    refine .pure (op_sm1 (q := (u % 100000000 % 10000 % 100)) rfl rfl (by decide +kernel) (by omega)) ?_
    refine .p rfl ?_
    refine .pure (op_sm0 (q := (u % 100000000 % 10000 % 100)) rfl rfl (by decide +kernel) (by omega)) ?_
    refine .pure (op_ixK (j := (q + 6) + 1) (o := (q + 6) + 2) rfl rfl (by omega) (by omega) (by omega)) ?_
    refine .nil ⟨⟨rfl, rfl⟩, ?_⟩
    refine ops_pure rfl rfl (op_ixK (j := (q + 6)) (o := (q + 6) + 1) rfl rfl (by omega) (by omega) (by omega)) ?_
    refine ops_n (op_storeAt (vs := [U8 ((48 + (u % 100000000 % 10000 % 100) / 10 : Nat) : Int)]) rfl rfl rfl rfl rfl .here (by simp [g1]; omega) ?_)
    rw [pair_cells (k := (q + 6)) (by simp [g1])]
    have g10 : (ys.take ((q + 6))).length = (q + 6) := by simp [g1]
    generalize ys.take ((q + 6)) = y0 at g10 ⊢
    refine walk ?_
    refine ex_quietN (b := b) (off := (q + 4) + 2) (v := U8 ((48 + (u % 100000000 % 10000 / 100) % 10 : Nat) : Int)) 12 rfl rfl (by simp [g10]; omega) ?_
    refine .p rfl (.p rfl (.p rfl (.p rfl (.p rfl (.p rfl (.p rfl (.p rfl ?_)))))))
    refine .pure (op_sm1 (q := (u % 100000000 % 10000 / 100)) rfl rfl (by decide +kernel) (by omega)) ?_
    refine .p rfl ?_
    refine .pure (op_sm0 (q := (u % 100000000 % 10000 / 100)) rfl rfl (by decide +kernel) (by omega)) ?_
    refine .pure (op_ixK (j := (q + 4) + 1) (o := (q + 4) + 2) rfl rfl (by omega) (by omega) (by omega)) ?_
    refine .nil ⟨⟨rfl, rfl⟩, ?_⟩
    refine ops_pure rfl rfl (op_ixK (j := (q + 4)) (o := (q + 4) + 1) rfl rfl (by omega) (by omega) (by omega)) ?_
    refine ops_n (op_storeAt (vs := [U8 ((48 + (u % 100000000 % 10000 / 100) / 10 : Nat) : Int)]) rfl rfl rfl rfl rfl .here (by simp [g10]; omega) ?_)
    rw [pair_cells (k := (q + 4)) (by simp [g10])]
    have g11 : (y0.take ((q + 4))).length = (q + 4) := by simp [g10]
    generalize y0.take ((q + 4)) = y1 at g11 ⊢
    refine walk ?_
    refine ex_quietN (b := b) (off := (q + 2) + 2) (v := U8 ((48 + (u % 100000000 / 10000 % 100) % 10 : Nat) : Int)) 12 rfl rfl (by simp [g11]; omega) ?_
    refine .p rfl (.p rfl (.p rfl (.p rfl (.p rfl (.p rfl (.p rfl (.p rfl ?_)))))))
    refine .pure (op_sm1 (q := (u % 100000000 / 10000 % 100)) rfl rfl (by decide +kernel) (by omega)) ?_
    refine .p rfl ?_
    refine .pure (op_sm0 (q := (u % 100000000 / 10000 % 100)) rfl rfl (by decide +kernel) (by omega)) ?_
    refine .pure (op_ixK (j := (q + 2) + 1) (o := (q + 2) + 2) rfl rfl (by omega) (by omega) (by omega)) ?_
    refine .nil ⟨⟨rfl, rfl⟩, ?_⟩
    refine ops_pure rfl rfl (op_ixK (j := (q + 2)) (o := (q + 2) + 1) rfl rfl (by omega) (by omega) (by omega)) ?_
    refine ops_n (op_storeAt (vs := [U8 ((48 + (u % 100000000 / 10000 % 100) / 10 : Nat) : Int)]) rfl rfl rfl rfl rfl .here (by simp [g11]; omega) ?_)
    rw [pair_cells (k := (q + 2)) (by simp [g11])]
    have g12 : (y1.take ((q + 2))).length = (q + 2) := by simp [g11]
    generalize y1.take ((q + 2)) = y2 at g12 ⊢
    refine walk ?_
    refine ex_quietN (b := b) (off := q + 2) (v := U8 ((48 + (u % 100000000 / 10000 / 100) % 10 : Nat) : Int)) 12 rfl rfl (by simp [g12]; omega) ?_
    refine .p rfl (.p rfl (.p rfl (.p rfl (.p rfl (.p rfl (.p rfl (.p rfl ?_)))))))
    refine .pure (op_sm1 (q := (u % 100000000 / 10000 / 100)) rfl rfl (by decide +kernel) (by omega)) ?_
    refine .p rfl ?_
    refine .pure (op_sm0 (q := (u % 100000000 / 10000 / 100)) rfl rfl (by decide +kernel) (by omega)) ?_
    refine .pure (op_ixK (j := q + 1) (o := q + 2) rfl rfl (by omega) (by omega) (by omega)) ?_
    refine .nil ⟨⟨rfl, rfl⟩, ?_⟩
    refine ops_pure rfl rfl (op_ixK (j := q) (o := q + 1) rfl rfl (by omega) (by omega) (by omega)) ?_
    refine ops_n (op_storeAt (vs := [U8 ((48 + (u % 100000000 / 10000 / 100) / 10 : Nat) : Int)]) rfl rfl rfl rfl rfl .here (by simp [g12]; omega) ?_)
    rw [pair_cells (k := q) (by simp [g12])]
    have g13 : (y2.take (q)).length = q := by simp [g12]
    generalize y2.take (q) = y3 at g13 ⊢
    refine walk ?_
    rw [show ((q + 8 : Nat) : Int) - 8 = (q : Int) by omega]
    refine out_next hL (q, u / 100000000, y3, [((48 + (u % 100000000 / 10000 / 100) / 10 : Nat) : Int), ((48 + (u % 100000000 / 10000 / 100) % 10 : Nat) : Int), ((48 + (u % 100000000 / 10000 % 100) / 10 : Nat) : Int), ((48 + (u % 100000000 / 10000 % 100) % 10 : Nat) : Int), ((48 + (u % 100000000 % 10000 / 100) / 10 : Nat) : Int), ((48 + (u % 100000000 % 10000 / 100) % 10 : Nat) : Int), ((48 + (u % 100000000 % 10000 % 100) / 10 : Nat) : Int), ((48 + (u % 100000000 % 10000 % 100) % 10 : Nat) : Int)] ++ ts) ⟨g13, by simp only; omega, ?_, by simp only; omega, ?_⟩ (by simp only; omega) (hs := Sub.refl _)
    · simp only
      rw [Nat.pow_add] at g3
      generalize 10 ^ q = p at *
      omega
    · simp only
      rw [g5, WD_two (q + 6) u, WD_two (q + 4) (u / 100), WD_two (q + 2) (u / 100 / 100), WD_two q (u / 100 / 100 / 100)]
      simp only [List.append_assoc, List.cons_append, List.nil_append]
      rw [show u / 100 / 100 / 100 / 100 = u / 100000000 by omega, show u % 100000000 % 10000 % 100 = u % 100 by omega, show u % 100000000 % 10000 / 100 = u / 100 % 100 by omega, show u % 100000000 / 10000 % 100 = u / 100 / 100 % 100 by omega, show u % 100000000 / 10000 / 100 = u / 100 / 100 / 100 % 100 by omega]
  · refine walk ?_
    refine ex_if rfl (fun h4 => ?_) (fun h4 => ?_)
    · obtain ⟨q, rfl⟩ : ∃ q, m = q + 4 := ⟨m - 4, by omega⟩
      refine walk ?_
      refine ex_quietN (b := b) (off := (q + 2) + 2) (v := U8 ((48 + (u % 10000 % 100) % 10 : Nat) : Int)) 12 rfl rfl (by simp [g1]; omega) ?_
      refine .p rfl (.p rfl (.p rfl (.p rfl (.p rfl (.p rfl (.p rfl (.p rfl ?_)))))))
      refine .pure (op_sm1 (q := (u % 10000 % 100)) rfl rfl (by decide +kernel) (by omega)) ?_
      refine .p rfl ?_
      refine .pure (op_sm0 (q := (u % 10000 % 100)) rfl rfl (by decide +kernel) (by omega)) ?_
      refine .pure (op_ixK (j := (q + 2) + 1) (o := (q + 2) + 2) rfl rfl (by omega) (by omega) (by omega)) ?_
      refine .nil ⟨⟨rfl, rfl⟩, ?_⟩
      refine ops_pure rfl rfl (op_ixK (j := (q + 2)) (o := (q + 2) + 1) rfl rfl (by omega) (by omega) (by omega)) ?_
      refine ops_n (op_storeAt (vs := [U8 ((48 + (u % 10000 % 100) / 10 : Nat) : Int)]) rfl rfl rfl rfl rfl .here (by simp [g1]; omega) ?_)
      rw [pair_cells (k := (q + 2)) (by simp [g1])]
      have g10 : (ys.take ((q + 2))).length = (q + 2) := by simp [g1]
      generalize ys.take ((q + 2)) = y0 at g10 ⊢
      refine walk ?_
      refine ex_quietN (b := b) (off := q + 2) (v := U8 ((48 + (u % 10000 / 100) % 10 : Nat) : Int)) 12 rfl rfl (by simp [g10]; omega) ?_
      refine .p rfl (.p rfl (.p rfl (.p rfl (.p rfl (.p rfl (.p rfl (.p rfl ?_)))))))
      refine .pure (op_sm1 (q := (u % 10000 / 100)) rfl rfl (by decide +kernel) (by omega)) ?_
      refine .p rfl ?_
      refine .pure (op_sm0 (q := (u % 10000 / 100)) rfl rfl (by decide +kernel) (by omega)) ?_
      refine .pure (op_ixK (j := q + 1) (o := q + 2) rfl rfl (by omega) (by omega) (by omega)) ?_
      refine .nil ⟨⟨rfl, rfl⟩, ?_⟩
      refine ops_pure rfl rfl (op_ixK (j := q) (o := q + 1) rfl rfl (by omega) (by omega) (by omega)) ?_
      refine ops_n (op_storeAt (vs := [U8 ((48 + (u % 10000 / 100) / 10 : Nat) : Int)]) rfl rfl rfl rfl rfl .here (by simp [g10]; omega) ?_)
      rw [pair_cells (k := q) (by simp [g10])]
      have g11 : (y0.take (q)).length = q := by simp [g10]
      generalize y0.take (q) = y1 at g11 ⊢
      have g13 : u / 10000 < 10 ^ q := by
        rw [Nat.pow_add] at g3
        generalize 10 ^ q = p at *
        omega
      have g15 : WD d n = WD q (u / 10000) ++ (((48 + (u % 10000 / 100) / 10 : Nat) : Int) :: ((48 + (u % 10000 / 100) % 10 : Nat) : Int) :: ((48 + (u % 10000 % 100) / 10 : Nat) : Int) :: ((48 + (u % 10000 % 100) % 10 : Nat) : Int) :: ts) := by
        rw [g5, WD_two (q + 2) u, WD_two q (u / 100)]
        simp only [List.append_assoc, List.cons_append, List.nil_append]
        rw [show u / 100 / 100 = u / 10000 by omega, show u % 10000 % 100 = u % 100 by omega, show u % 10000 / 100 = u / 100 % 100 by omega]
      refine walk ?_
      refine ex_if rfl (fun h2 => ?_) (fun h2 => ?_)
      · obtain ⟨q2, rfl⟩ : ∃ q2, q = q2 + 2 := ⟨q - 2, by omega⟩
        refine walk ?_
        refine ex_quietN (b := b) (off := q2 + 2) (v := U8 ((48 + ((u / 10000) % 100) % 10 : Nat) : Int)) 12 rfl rfl (by simp [g11]; omega) ?_
        refine .p rfl (.p rfl (.p rfl (.p rfl (.p rfl (.p rfl (.p rfl (.p rfl ?_)))))))
        refine .pure (op_sm1 (q := ((u / 10000) % 100)) rfl rfl (by decide +kernel) (by omega)) ?_
        refine .p rfl ?_
        refine .pure (op_sm0 (q := ((u / 10000) % 100)) rfl rfl (by decide +kernel) (by omega)) ?_
        refine .pure (op_ixK (j := q2 + 1) (o := q2 + 2) rfl rfl (by omega) (by omega) (by omega)) ?_
        refine .nil ⟨⟨rfl, rfl⟩, ?_⟩
        refine ops_pure rfl rfl (op_ixK (j := q2) (o := q2 + 1) rfl rfl (by omega) (by omega) (by omega)) ?_
        refine ops_n (op_storeAt (vs := [U8 ((48 + ((u / 10000) % 100) / 10 : Nat) : Int)]) rfl rfl rfl rfl rfl .here (by simp [g11]; omega) ?_)
        rw [pair_cells (k := q2) (by simp [g11])]
        have gz1 : (y1.take (q2)).length = q2 := by simp [g11]
        generalize y1.take (q2) = yz at gz1 ⊢
        have gz3 : (u / 10000) / 100 < 10 ^ q2 := by
          rw [Nat.pow_add] at g13
          generalize 10 ^ q2 = p at *
          omega
        have gz5 : WD d n = WD q2 ((u / 10000) / 100) ++ (((48 + ((u / 10000) % 100) / 10 : Nat) : Int) :: ((48 + ((u / 10000) % 100) % 10 : Nat) : Int) :: ((48 + (u % 10000 / 100) / 10 : Nat) : Int) :: ((48 + (u % 10000 / 100) % 10 : Nat) : Int) :: ((48 + (u % 10000 % 100) / 10 : Nat) : Int) :: ((48 + (u % 10000 % 100) % 10 : Nat) : Int) :: ts) := by
          rw [g15, WD_two q2 (u / 10000)]
          simp only [List.append_assoc, List.cons_append, List.nil_append]
        refine walk ?_
        refine ex_if rfl (fun h1 => ?_) (fun h1 => ?_)
        · obtain rfl : q2 = 1 := by omega
          have g9 : ((u / 10000) / 100) < 10 := by simpa using gz3
          obtain ⟨c0, rfl⟩ := List.length_eq_one_iff.1 gz1
          rw [List.singleton_append]
          refine walk ?_
          refine endnB [row b T (z :: ((WD d n).map U8 ++ sp))] ?_ (hs := ?_)
          · exact ⟨rfl, rfl, rfl⟩
          · rw [gz5, show WD 1 ((u / 10000) / 100) = [((48 + ((u / 10000) / 100) : Nat) : Int)] by simp only [WD, List.nil_append]; rw [Nat.mod_eq_of_lt g9]]
            exact Sub.refl _
        · obtain rfl : q2 = 0 := by omega
          obtain rfl := List.length_eq_zero_iff.1 gz1
          refine walk ?_
          refine endnB [row b T (z :: ((WD d n).map U8 ++ sp))] ?_ (hs := ?_)
          · exact ⟨rfl, rfl, rfl⟩
          · rw [gz5]
            exact Sub.refl _
      · refine walk ?_
        refine ex_if rfl (fun h1 => ?_) (fun h1 => ?_)
        · obtain rfl : q = 1 := by omega
          have g9 : (u / 10000) < 10 := by simpa using g13
          obtain ⟨c0, rfl⟩ := List.length_eq_one_iff.1 g11
          rw [List.singleton_append]
          refine walk ?_
          refine endnB [row b T (z :: ((WD d n).map U8 ++ sp))] ?_ (hs := ?_)
          · exact ⟨rfl, rfl, rfl⟩
          · rw [g15, show WD 1 (u / 10000) = [((48 + (u / 10000) : Nat) : Int)] by simp only [WD, List.nil_append]; rw [Nat.mod_eq_of_lt g9]]
            exact Sub.refl _
        · obtain rfl : q = 0 := by omega
          obtain rfl := List.length_eq_zero_iff.1 g11
          refine walk ?_
          refine endnB [row b T (z :: ((WD d n).map U8 ++ sp))] ?_ (hs := ?_)
          · exact ⟨rfl, rfl, rfl⟩
          · rw [g15]
            exact Sub.refl _
    · refine walk ?_
      refine ex_if rfl (fun h2 => ?_) (fun h2 => ?_)
      · obtain ⟨q2, rfl⟩ : ∃ q2, m = q2 + 2 := ⟨m - 2, by omega⟩
        refine walk ?_
        refine ex_quietN (b := b) (off := q2 + 2) (v := U8 ((48 + (u % 100) % 10 : Nat) : Int)) 12 rfl rfl (by simp [g1]; omega) ?_
        refine .p rfl (.p rfl (.p rfl (.p rfl (.p rfl (.p rfl (.p rfl (.p rfl ?_)))))))
        refine .pure (op_sm1 (q := (u % 100)) rfl rfl (by decide +kernel) (by omega)) ?_
        refine .p rfl ?_
        refine .pure (op_sm0 (q := (u % 100)) rfl rfl (by decide +kernel) (by omega)) ?_
        refine .pure (op_ixK (j := q2 + 1) (o := q2 + 2) rfl rfl (by omega) (by omega) (by omega)) ?_
        refine .nil ⟨⟨rfl, rfl⟩, ?_⟩
        refine ops_pure rfl rfl (op_ixK (j := q2) (o := q2 + 1) rfl rfl (by omega) (by omega) (by omega)) ?_
        refine ops_n (op_storeAt (vs := [U8 ((48 + (u % 100) / 10 : Nat) : Int)]) rfl rfl rfl rfl rfl .here (by simp [g1]; omega) ?_)
        rw [pair_cells (k := q2) (by simp [g1])]
        have gz1 : (ys.take (q2)).length = q2 := by simp [g1]
        generalize ys.take (q2) = yz at gz1 ⊢
        have gz3 : u / 100 < 10 ^ q2 := by
          rw [Nat.pow_add] at g3
          generalize 10 ^ q2 = p at *
          omega
        have gz5 : WD d n = WD q2 (u / 100) ++ (((48 + (u % 100) / 10 : Nat) : Int) :: ((48 + (u % 100) % 10 : Nat) : Int) :: ts) := by
          rw [g5, WD_two q2 u]
          simp only [List.append_assoc, List.cons_append, List.nil_append]
        refine walk ?_
        refine ex_if rfl (fun h1 => ?_) (fun h1 => ?_)
        · obtain rfl : q2 = 1 := by omega
          have g9 : (u / 100) < 10 := by simpa using gz3
          obtain ⟨c0, rfl⟩ := List.length_eq_one_iff.1 gz1
          rw [List.singleton_append]
          refine walk ?_
          refine endnB [row b T (z :: ((WD d n).map U8 ++ sp))] ?_ (hs := ?_)
          · exact ⟨rfl, rfl, rfl⟩
          · rw [gz5, show WD 1 (u / 100) = [((48 + (u / 100) : Nat) : Int)] by simp only [WD, List.nil_append]; rw [Nat.mod_eq_of_lt g9]]
            exact Sub.refl _
        · obtain rfl : q2 = 0 := by omega
          obtain rfl := List.length_eq_zero_iff.1 gz1
          refine walk ?_
          refine endnB [row b T (z :: ((WD d n).map U8 ++ sp))] ?_ (hs := ?_)
          · exact ⟨rfl, rfl, rfl⟩
          · rw [gz5]
            exact Sub.refl _
      · refine walk ?_
        refine ex_if rfl (fun h1 => ?_) (fun h1 => ?_)
        · obtain rfl : m = 1 := by omega
          have g9 : u < 10 := by simpa using g3
          obtain ⟨c0, rfl⟩ := List.length_eq_one_iff.1 g1
          rw [List.singleton_append]
          refine walk ?_
          refine ops_n (op_storeAt (off := 1) (vs := [U8 ((48 + u : Nat) : Int)]) rfl rfl rfl rfl rfl .here (by simp) ?_)
          refine walk ?_
          refine endnB [row b T (z :: ((WD d n).map U8 ++ sp))] ?_ (hs := ?_)
          · exact ⟨rfl, rfl, rfl⟩
          · rw [g5, show WD 1 u = [((48 + u : Nat) : Int)] by simp only [WD, List.nil_append]; rw [Nat.mod_eq_of_lt g9]]
            exact Sub.refl _
        · obtain rfl : m = 0 := by omega
          obtain rfl := List.length_eq_zero_iff.1 g1
          refine walk ?_
          refine endnB [row b T (z :: ((WD d n).map U8 ++ sp))] ?_ (hs := ?_)
          · exact ⟨rfl, rfl, rfl⟩
          · rw [g5]
            exact Sub.refl _
section
variable {P : Program} {n : NF} {F : Slots} {H : Heap} {L : List HProp} {dst : Option Tmp} {ty : TypeId} {pos : String} {aft : Array Edge} {g : Option (Nat × Bool)} {x y z : Operand} {T : TypeId}
theorem op_slArr {e N sz b off l h : Nat} {kd kd' : IntKind} [hT : TAr P T N e] [hS : TSz P e sz] (hx : opv F x = some (.pointer (some ⟨b, off, none⟩))) (hy : opv F y = some (.int kd (l : Int))) (hz : opv F z = some (.int kd' (h : Int))) (h1 : l ≤ h) (h2 : h ≤ N) (h3 : l < N) :
    OpP P n ⟨dst, .slice T x (some y) (some z) none, ty, pos, aft, g⟩ F H L (.slice (some ⟨b, off + l * sz, none⟩) (h - l) (N - l)) :=
  .mk fun _ w hF _ => by
    have hne : ¬ N = l := by omega
    simp [execOp, hF.opv hx, hF.opv hy, hF.opv hz, Instr.sliceAt, Instr.sureAddr, run_underlying hT.und, Instr.sliceBounds, Instr.sliceBound, asIntOf, hS.run, h1, h2, hne, Addr.add_lit]
end
instance : TAr Tryd.prog 135 24 5 := ⟨Tryd.underlying135⟩
instance : TZL Tryd.prog 135 (List.replicate 24 (.int .u8 0)) := ⟨_, Tryd.zeroValue135, rfl⟩
theorem formatInt_spec {W0 : GW} {H : Heap} {n : Nat} (hT : TabH Tryd.prog H) (hn : n < 4294967296) :
    Ct Tryd.prog 68 #[I n, I 10] W0 H [] (fun r H' B => r = .string (sb (dgs n)) ∧ B = [] ∧ H' = H) := by
  refine Ct.go (vs := [_, _]) fun R => ?_
  by_cases hs : n < 100
  · refine walk ?_
    refine ops_pcall rfl rfl (small_spec hs) ?_
    refine walk ?_
    refine fin0 ?_
    exact ⟨rfl, rfl, rfl⟩
  · refine walk ?_
    refine ops_alloc rfl fun p _ => ?_
    refine walk ?_
    rw [wrap_u64 (by omega)]
    refine ops_call rfl rfl (numDigits_spec hT (by omega) hn) fun r H' B hl ⟨⟨d, er, d1, d2, d3, d4⟩, eB, eH⟩ => ?_
    subst er eB eH
    refine walk ?_
    have e1 : (1 : Int) + (d : Int) = ((1 + d : Nat) : Int) := by omega
    rw [e1]
    refine ops_pure rfl rfl (op_slArr (l := 1) (h := 1 + d) rfl rfl rfl (by omega) (by omega) (by omega)) ?_
    rw [show 0 + 1 * 1 = 1 from rfl, Nat.add_sub_cancel_left]
    refine walk ?_
    rw [show List.replicate 24 (Value.int .u8 0) = U8 0 :: (List.replicate d (U8 0) ++ List.replicate (23 - d) (U8 0)) by rw [List.replicate_append_replicate, show d + (23 - d) = 23 by omega]; rfl]
    refine ops_call rfl rfl (format10_spec (n := n) (d := d) (b := p) (cap := 24 - 1) (T := 135) (z := U8 0) (zs := List.replicate d (U8 0)) (sp := List.replicate (23 - d) (U8 0)) (by simp) d2 d4 hn) fun r H' B hl ⟨er, eH, eB⟩ => ?_
    subst er eH eB
    refine walk ?_
    rw [e1]
    refine ops_pure rfl rfl (op_slArr (l := 1) (h := 1 + d) rfl rfl rfl (by omega) (by omega) (by omega)) ?_
    rw [show 0 + 1 * 1 = 1 from rfl, Nat.add_sub_cancel_left]
    refine ops_pure rfl rfl (op_b2s (ns := WD d n) rfl .here (fun i v hi => ?_) (by rw [WD_len])) ?_
    · rw [Nat.add_comm, List.getElem?_cons_succ, List.getElem?_append_left (by have := (List.getElem?_eq_some_iff.1 hi).1; simpa using this)]
      exact hi
    rw [WD_dgs (by omega) d1 d3 d4]
    refine walk ?_
    refine fin0 ?_
    exact ⟨rfl, rfl, rfl⟩
theorem itoaI_spec {W0 : GW} {H : Heap} {n : Nat} (hT : TabH Tryd.prog H) (hn : n < 4294967296) :
    Ct Tryd.prog 62 #[I n] W0 H [] (fun r H' B => r = .string (sb (dgs n)) ∧ B = [] ∧ H' = H) := by
  refine Ct.go fun R => ?_
  refine walk ?_
  refine ops_pcall rfl rfl (formatInt_spec hT hn) ?_
  refine walk ?_
  refine fin0 ?_
  exact ⟨rfl, rfl, rfl⟩
abbrev numI (n : Int) : Prop := 0 ≤ n ∧ n < 4294967296
theorem numI.fits {n : Int} (h : numI n) : fits n := by unfold Sx.fits; unfold numI at h; omega
theorem itoa_spec {W0 : GW} {H : Heap} {n : Int} (hT : TabH Tryd.prog H) (hn : numI n) :
    Ct Tryd.prog 48 #[I n] W0 H [] (fun r H' B => r = .string (sb (dgs n)) ∧ B = [] ∧ H' = H) := by
  obtain ⟨k, rfl⟩ : ∃ k : Nat, n = k := ⟨n.toNat, by have := hn.1; omega⟩
  refine Ct.go fun R => ?_
  refine walk ?_
  refine ops_pcall rfl rfl (itoaI_spec hT (by have := hn.2; omega)) ?_
  refine walk ?_
  refine fin0 ?_
  exact ⟨rfl, rfl, rfl⟩
end Go.Proofs.YtafhinjggdknjaaDoor
namespace Go.Proofs.YtafhinjggdknjaaDoor
end Go.Proofs.YtafhinjggdknjaaDoor
namespace Go.Proofs.YtafhinjggdknjaaDoor
open Go Go.Sx Go.X Go.Proofs
theorem gSlot_spec {W0 : GW} {H : Heap} {c t : Int} (hT : TabH Tryd.prog H) (n1 : numI c) (n2 : numI t) :
    Ct Tryd.prog 22 #[I c, I t] W0 H [] (fun r H' B => r = .string (sb (slotL c t)) ∧ B = [] ∧ H' = H) := by
  have h1 := n1.fits
  have h2 := n2.fits
  refine Ct.go fun R => ?_
  haveI l1 : LenLe (dgs c) 20 := ⟨dgs_len h1⟩
  haveI l2 : LenLe (dgs t) 20 := ⟨dgs_len h2⟩
  refine walk ?_
  refine ops_pcall rfl rfl (itoa_spec hT n1) ?_
  refine walk ?_
  refine ops_pcall rfl rfl (itoa_spec hT n2) ?_
  refine walk ?_
  refine fin0 ?_
  exact ⟨rfl, rfl, rfl⟩
theorem gPass_spec {W0 : GW} {H : Heap} {a b t : Int} (hT : TabH Tryd.prog H) (n1 : numI a) (n2 : numI b) (n3 : numI t) :
    Ct Tryd.prog 25 #[I a, I b, I t] W0 H [] (fun r H' B => r = .string (sb (passL a b t)) ∧ B = [] ∧ H' = H) := by
  have n4 : numI (min a b) := by unfold numI at *; omega
  have n5 : numI (max a b) := by unfold numI at *; omega
  have h4 := n4.fits
  have h5 := n5.fits
  have h3 := n3.fits
  refine Ct.go fun R => ?_
  haveI l1 : LenLe (dgs (min a b)) 20 := ⟨dgs_len h4⟩
  haveI l2 : LenLe (dgs (max a b)) 20 := ⟨dgs_len h5⟩
  haveI l3 : LenLe (dgs t) 20 := ⟨dgs_len h3⟩
  refine walk ?_
  refine ops_pcall rfl rfl (itoa_spec hT n4) ?_
  refine walk ?_
  refine ops_pcall rfl rfl (itoa_spec hT n5) ?_
  refine walk ?_
  refine ops_pcall rfl rfl (itoa_spec hT n3) ?_
  refine walk ?_
  refine fin0 ?_
  exact ⟨rfl, rfl, rfl⟩
end Go.Proofs.YtafhinjggdknjaaDoor
