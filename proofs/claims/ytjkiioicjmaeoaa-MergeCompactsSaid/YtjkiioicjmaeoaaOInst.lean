/- Written by program (gen_inst.py) for this seat: what the walk asks of its types and functions. -/
import Derived.Test.YtjkiioicjmaeoaaOE9
import Derived.Test.YtjkiioicjmaeoaaProg
set_option linter.unusedVariables false
set_option linter.unusedSimpArgs false
namespace Go.Sx
open Go Go.X
noncomputable def gd (p : Prop) (v : Value) : Value := @ite _ p (Classical.propDecidable p) v undef
theorem gd_T {p : Prop} {v : Value} (h : p) : gd p v = v := by unfold gd; rw [if_pos h]
theorem gd_F {p : Prop} {v : Value} (h : ¬ p) : gd p v = undef := by unfold gd; rw [if_neg h]
class GSym (gv : Option (Value × Bool)) (p : outParam Prop) : Prop where
  t : p → GOk gv true
  f : ¬ p → GOk gv false
instance {p : Prop} {dp : Decidable p} : GSym (some (.bool (@decide p dp), true)) p := ⟨fun h => ⟨by simp [h]⟩, fun h => ⟨by simp [h, gno]⟩⟩
instance {p : Prop} {dp : Decidable p} : GSym (some (.bool (@decide p dp), false)) (¬ p) := ⟨fun h => ⟨by simp [h]⟩, fun h => ⟨by have := Classical.not_not.1 h; simp [this, gno]⟩⟩
instance {r p : Prop} {dp : Decidable p} : GSym (some (gd r (.bool (@decide p dp)), true)) (r ∧ p) := ⟨fun h => ⟨by simp [gd_T h.1, h.2]⟩, fun h => ⟨by
  by_cases hr : r
  · have : ¬ p := fun hp => h ⟨hr, hp⟩
    simp [gd_T hr, this, gno]
  · simp [gd_F hr, undef, gno]⟩⟩
instance {r p : Prop} {dp : Decidable p} : GSym (some (gd r (.bool (@decide p dp)), false)) (r ∧ ¬ p) := ⟨fun h => ⟨by simp [gd_T h.1, h.2]⟩, fun h => ⟨by
  by_cases hr : r
  · have : p := Classical.not_not.1 fun hp => h ⟨hr, hp⟩
    simp [gd_T hr, this, gno]
  · simp [gd_F hr, undef, gno]⟩⟩
section
variable {P : Program} {c x y : Operand} {p q : Prop} {dp : Decidable p} {dq : Decidable q}
end
section
variable {q : Bool} {P : Program} {n : NF} {W0 : GW} {Q : Exit → Act → GW → Prop} {F : Slots} {H : Heap} {L : List HProp} {ops : Array Oper} {rest : List Oper} {k : List Fr} {op : Op} {ty ty' : TypeId} {pos pos' : String} {aft aft' : Array Edge} {d d' : Tmp} {g g' : Option (Nat × Bool)} {v : Value} {vs us : List Value} {gv gv' : Option (Value × Bool)} {p : Prop}
theorem Take.from {L A R : List HProp} (h : Take L A R) : Sub (A ++ R) L := by
  induction h with
  | nil => exact Sub.refl _
  | cons h _ ih => exact (Sub.cons ih).trans h.from
theorem ops_pcall {q : Bool} {f : FuncId} {l : List Operand} {ts : Array TypeId} {A R : List HProp} [TFn P f] (hg : gval ops F g = some gv) [hb : GOk gv true] (ha : opvs F l = some vs) (hs : Ct P f vs.toArray W0 H A (fun r H' B => r = v ∧ B = A ∧ H' = H))
    (hk : Ops P n W0 Q ((d, v) :: F) H L q ops rest k) (ht : Take L A R := by repeat (first | exact Go.Sx.Take.nil | (apply Go.Sx.Take.cons; focus (repeat (first | exact Go.Sx.Has.here | apply Go.Sx.Has.there)))))
    (hd : Nat.blt d n = true := by rfl) : Ops P n W0 Q F H L q ops (⟨some d, .call ⟨.value (.func f), l.toArray, ts⟩, ty, pos, aft, g⟩ :: rest) k := by
  cases q with
  | false => exact ops_call hg ha hs (fun r H' B hl ⟨e1, e2, e3⟩ => by subst e1 e2 e3; exact ops_L ht.from hk) ht hd
  | true =>
    have hs' := hs.mono fun r H' B _ h => (⟨h.1, h.2.2, h.2.1⟩ : r = v ∧ H' = H ∧ B = A)
    cases g with
    | none => exact ⟨⟨d, v, rfl, hd, .inl fun a w hF hS => ⟨by simp [Region.wanted], .inl (yv_call (opvs_args ha) hs' ht ht.from hF hS)⟩, hk.run⟩⟩
    | some jw =>
      obtain ⟨j, w⟩ := jw
      obtain ⟨dj, u, hj, hu, hw, _⟩ := gval_spec (b := true) hg
      rw [hw rfl] at hu
      exact ⟨⟨d, v, rfl, hd, .inl fun a w hF hS => ⟨by simp [Region.wanted, hF.yielded hj hu, vb], .inl (yv_call (opvs_args ha) hs' ht ht.from hF hS)⟩, hk.run⟩⟩
end
section
variable {P : Program} {n : NF} {W0 : GW} {Q : Exit → Act → GW → Prop} {F : Slots} {H H0 : Heap} {L L0 : List HProp} {m fuel : Nat} {ops : Array Oper} {listed : Array Bool} {k : List Fr} {op : Op} {ty : TypeId} {pos : String} {aft : Array Edge} {d : Tmp} {v : Value} {vs us : List Value} {g : Option (Nat × Bool)} {gv : Option (Value × Bool)} {p : Prop}
end
end Go.Sx
namespace Go.Sx
open Go Go.X
instance {P : Program} {x : Operand} {T : TypeId} {p : Prop} {dp : Decidable p} : POp P (.unOp .not T x) [.bool (@decide p dp)] True (.bool (@decide (¬ p) instDecidableNot)) := ⟨fun _ h => (op_not (opvs1 h)).cast (by simp)⟩
section
variable {P : Program} {n : NF} {W0 : GW} {Q : Exit → Act → GW → Prop} {F : Slots} {H H0 : Heap} {L L0 : List HProp} {m fuel : Nat} {ops : Array Oper} {listed : Array Bool} {k : List Fr} {op : Op} {ty ty' : TypeId} {pos pos' : String} {aft aft' : Array Edge} {d d' : Tmp} {v : Value} {vs us : List Value} {g g' : Option (Nat × Bool)} {gv gv' : Option (Value × Bool)} {p : Prop}
end
section
variable {P : Program} {n : NF} {W0 : GW} {Q : Exit → Act → GW → Prop} {F : Slots} {H : Heap} {L R : List HProp} {ops : Array Oper} {rest : List Oper} {k : List Fr} {e : Exit} {c : Code} {b : Nat} {o : Obj}
theorem sat_frz {G : Act → GW → Prop} (hh : Has L (pt b o) R) (h : H b = none → H.le (upd H b o) → Sat n W0 F (upd H b o) R G) : Sat n W0 F H L G := fun a w hF hS => by
  obtain ⟨h0, h1⟩ := (hS.sub hh.to).freeze
  exact h h0 (le_upd h0) a w hF h1
theorem row_hrow {T : TypeId} {cs : List Value} : HRow (upd H b (.cells cs.toArray T (0, 0))) b 0 cs := fun j v hj => by
  simp only [hcell, upd_same]; simpa using hj
theorem ops_frzR {T : TypeId} {cs : List Value} (hh : Has L (row b T cs) R) (h : ∀ H', H.le H' → HRow H' b 0 cs → Ops P n W0 Q F H' R false ops rest k) : Ops P n W0 Q F H L false ops rest k := ⟨sat_frz hh fun _ hl => (h _ hl row_hrow).run⟩
section
variable {κ ν : Type} {ek : κ → Value} {RV : Rd ν} {ag : Bool} {H0 : Heap} {ms : List (κ × ν)}
end
end
section
variable {q : Bool} {κ ν : Type} [DecidableEq κ] {P : Program} {n : NF} {W0 : GW} {Q : Exit → Act → GW → Prop} {F : Slots} {H H0 : Heap} {L R : List HProp} {ops : Array Oper} {rest : List Oper} {k : List Fr} {ty : TypeId} {pos : String} {aft : Array Edge} {d : Tmp} {g : Option (Nat × Bool)} {gv : Option (Value × Bool)} {p : Prop} {b : Nat}
variable {ek : κ → Value} {RV : Rd ν} {ag : Bool} {t kt et : TypeId} {ms : List (κ × ν)} {ky : κ}
class KeyV (ek : outParam (κ → Value)) (v : Value) (ky : outParam κ) : Prop where
  h : v = ek ky
instance {s : ByteArray} : KeyV Value.string (.string s) s := ⟨rfl⟩
theorem ops_makeMap {κ ν : Type} [DecidableEq κ] (ek : κ → Value) (RV : Rd ν) (ag : Bool) (hg : gval ops F g = some gv) [hb : GOk gv true] (hk : ∀ b, H b = none → Ops P n W0 Q ((d, .map (some b)) :: F) H (mapO ek RV ag H b ([] : List (κ × ν)) :: L) false ops rest k) (hd : Nat.blt d n = true := by rfl) : Ops P n W0 Q F H L false ops (⟨some d, .makeMap t none, ty, pos, aft, g⟩ :: rest) k :=
  ops_w hg hd (op_makeMap hk)
theorem ops_lkO {x y : Operand} {kv : Value} {val : ν → Value} {okp : ν → Prop} {z : ν} [h1 : R1 RV val okp] [hT : TMap P t kt et] [hV : KeyV ek kv ky] [hK : TKey P kt ek] [hZ : TZ P et (val z)] (hg : gval ops F g = some gv) [hb : GOk gv true] (hv : opvs F [x, y] = some [.map (some b), kv]) (hh : Has L (mapO ek RV false H0 b ms) R)
    (hk : Ops P n W0 Q ((d, val ((mget ky ms).getD z)) :: F) H L q ops rest k) (hd : Nat.blt d n = true := by rfl) : Ops P n W0 Q F H L q ops (⟨some d, .lookup t x y false, ty, pos, aft, g⟩ :: rest) k :=
  ops_pure hg hd (op_lkO (d := z) (opvs2 hv).1 ((opvs2 hv).2.trans (congrArg some hV.h)) hh) hk
theorem ops_update {x y z : Operand} {kv v : Value} {u : ν} {cs : List Value} [hT : TMap P t kt et] [hV : KeyV ek kv ky] [hK : TKey P kt ek] (hv : opvs F [x, y, z] = some [.map (some b), kv, v]) (hc : v = ofC ag cs) (hu : RV H0 cs u) (hh : Has L (mapO ek RV ag H0 b ms) R)
    (hk : Ops P n W0 Q F H (mapO ek RV ag H0 b (mset ky u ms) :: R) false ops rest k) : Ops P n W0 Q F H L false ops (⟨none, .mapUpdate t x y z, ty, pos, aft, none⟩ :: rest) k :=
  ops_n (op_update (opvs3 hv).1 ((opvs3 hv).2.1.trans (congrArg some hV.h)) (opvs3 hv).2.2 hc hu hh hk)
end
end Go.Sx
namespace Go.Sx
open Go Go.X
section
variable {n : NF} {W0 : GW} {F : Slots} {H H' : Heap} {L R : List HProp} {A : HProp} {D : Heap} {G : Act → GW → Prop}
theorem sat_lend (hh : Has L A R) (h : ∀ D, A D → Disj H D → H.le (union H D) → D.le (union H D) → Sat n W0 F (union H D) R G) : Sat n W0 F H L G := fun a w hF hS => by
  obtain ⟨hA, hR, pa, r, d, dA, dR, lA, lR⟩ := (hS.sub hh.to).parts
  exact h hA pa dA (le_union_left _ _) (le_union_right dA) a w hF (hS.mk' (union_le hS.ro lA) ⟨hR, r, lR, disj_union dR d⟩)
theorem sat_back (ho : A D) (hd : Disj H D) (hl : (union H D).le H') (h : Sat n W0 F H (A :: L) G) : Sat n W0 F H' L G := fun a w hF hS => by
  obtain ⟨x, hx, lx, dx⟩ := hS.own
  have d1 : Disj (union H D) x := dx.mono hl
  have lw := hl.trans hS.ro
  exact h a w hF (hS.of_parts ((le_union_left _ _).trans lw) ho hx (d1.mono (le_union_right hd)) hd (d1.mono (le_union_left _ _)) ((le_union_right hd).trans lw) lx)
end
section
variable {P : Program} {n : NF} {W0 : GW} {Q : Exit → Act → GW → Prop} {F : Slots} {H H' : Heap} {L R : List HProp} {A : HProp} {D : Heap} {ops : Array Oper} {rest : List Oper} {k : List Fr} {e : Exit} {c : Code}
theorem ex_lend (hh : Has L A R) (h : ∀ D, A D → Disj H D → H.le (union H D) → D.le (union H D) → Ex P n W0 Q F (union H D) R c k) : Ex P n W0 Q F H L c k := ⟨sat_lend hh fun D a b x y => (h D a b x y).run⟩
theorem ops_back (ho : A D) (hd : Disj H D) (hl : (union H D).le H') (h : Ops P n W0 Q F H (A :: L) false ops rest k) : Ops P n W0 Q F H' L false ops rest k := ⟨sat_back ho hd hl h.run⟩
theorem ex_back (ho : A D) (hd : Disj H D) (hl : (union H D).le H') (h : Ex P n W0 Q F H (A :: L) c k) : Ex P n W0 Q F H' L c k := ⟨sat_back ho hd hl h.run⟩
theorem out_back (ho : A D) (hd : Disj H D) (hl : (union H D).le H') (h : Out P n W0 Q F H (A :: L) e k) : Out P n W0 Q F H' L e k := ⟨sat_back ho hd hl h.run⟩
end
class RdFlat {α : Type} (R : Rd α) : Prop where
  flat : ∀ {H H' c x}, R H c x → R H' c x
theorem RL.flat {α : Type} {R : Rd α} [RdFlat R] {H H' : Heap} : ∀ {xs : List α} {cs : List Value}, RL R H cs xs → RL R H' cs xs
  | [], _, h => h
  | _ :: _, _, ⟨c, r, e, h1, h2⟩ => ⟨c, r, e, RdFlat.flat h1, h2.flat⟩
theorem ownS_flat {α : Type} {R : Rd α} [RdFlat R] {sz w T : Nat} {H H' : Heap} {s : Value} {xs : List α} {h : Heap} (ho : ownS R sz w T H s xs h) : ownS R sz w T H' s xs h := by
  obtain ⟨cs, ⟨a, b⟩, c⟩ := ho; exact ⟨cs, ⟨a.flat, b⟩, c⟩
theorem sub_flat {α : Type} {R : Rd α} [RdFlat R] {sz w T : Nat} (H H' : Heap) {s : Value} {xs : List α} {L : List HProp} : Sub (ownS R sz w T H s xs :: L) (ownS R sz w T H' s xs :: L) := fun h ⟨h1, h2, a, r⟩ => ⟨h1, h2, ownS_flat a, r⟩
theorem row_reads {b : Nat} {T : TypeId} {cs : List Value} {h H : Heap} (ho : row b T cs h) (hl : h.le H) : HRow H b 0 cs := fun j v hj => by
  have := hl _ _ ho
  simp only [hcell, this]; simpa using hj
end Go.Sx
namespace Go.Sx
open Go Go.X
def bigL {ι : Type} (A : ι → HProp) (l : List ι) : HProp := big (l.map A)
section
variable {ι : Type} {A : ι → HProp} {l l1 l2 : List ι} {x y : ι} {L : List HProp}
theorem bigL_open : Sub (bigL A l :: L) (l.map A ++ L) := sub_open fun _ h => h
theorem bigL_shut : Sub (l.map A ++ L) (bigL A l :: L) := sub_shut fun _ h => h
theorem sub_mid {M N : List HProp} {B : HProp} : Sub (M ++ B :: N) (B :: (M ++ N)) := by
  induction M with
  | nil => exact Sub.refl _
  | cons a M ih => exact (Sub.cons ih).trans fun _ => big_swap
theorem sub_unmid {M N : List HProp} {B : HProp} : Sub (B :: (M ++ N)) (M ++ B :: N) := by
  induction M with
  | nil => exact Sub.refl _
  | cons a M ih => exact Sub.trans (fun _ => big_swap) (Sub.cons ih)
theorem bigL_out : Sub (bigL A (l1 ++ x :: l2) :: L) (A x :: bigL A (l1 ++ l2) :: L) := by
  refine bigL_open.trans ?_
  rw [List.map_append, List.map_cons, List.append_assoc, List.cons_append]
  refine sub_mid.trans (Sub.cons ?_)
  rw [← List.append_assoc, ← List.map_append]
  exact bigL_shut
theorem bigL_in : Sub (A x :: bigL A (l1 ++ l2) :: L) (bigL A (l1 ++ x :: l2) :: L) := by
  refine Sub.trans (Sub.cons bigL_open) ?_
  rw [List.map_append, List.append_assoc]
  refine sub_unmid.trans ?_
  have : l1.map A ++ A x :: (l2.map A ++ L) = (l1 ++ x :: l2).map A ++ L := by simp
  rw [this]
  exact bigL_shut
theorem bigL_nil : Sub L (bigL A [] :: L) := fun h hb => ⟨Heap.empty, h, trivial, hb, fun _ => .inl rfl, fun _ _ h => by simp [Heap.empty] at h, .refl _⟩
theorem split_at {k : Nat} (hk : k < l.length) : l = l.take k ++ l[k] :: l.drop (k + 1) := by
  rw [← List.drop_eq_getElem_cons hk, List.take_append_drop]
theorem bigL_get {k : Nat} (hk : k < l.length) : Sub (bigL A l :: L) (A l[k] :: bigL A (l.take k ++ l.drop (k + 1)) :: L) := by
  have h := bigL_out (A := A) (l1 := l.take k) (x := l[k]) (l2 := l.drop (k + 1)) (L := L)
  rwa [← split_at hk] at h
theorem bigL_set {k : Nat} (hk : k < l.length) : Sub (A y :: bigL A (l.take k ++ l.drop (k + 1)) :: L) (bigL A (l.set k y) :: L) := by
  have h := bigL_in (A := A) (l1 := l.take k) (x := y) (l2 := l.drop (k + 1)) (L := L)
  rw [List.set_eq_take_append_cons_drop, if_pos hk]; exact h
end
section
variable {P : Program} {n : NF} {W0 : GW} {Q : Exit → Act → GW → Prop} {F : Slots} {H : Heap} {L : List HProp} {ops : Array Oper} {rest : List Oper} {q : Bool} {k : List Fr} {y : Code}
end
end Go.Sx
namespace Go.Sx
open Go Go.X
section
variable {P : Program} {n : NF} {W0 : GW} {Q : Exit → Act → GW → Prop} {F : Slots} {H : Heap} {L : List HProp} {ops : Array Oper} {rest : List Oper} {k : List Fr} {ty ty' : TypeId} {pos pos' : String} {aft aft' : Array Edge} {d d' : Tmp} {g g' : Option (Nat × Bool)} {v : Value}
theorem empty_le (H : Heap) : Heap.empty.le H := fun _ _ h => by simp [Heap.empty] at h
theorem ex_lendS {c : Code} {α : Type} {R : Rd α} {sz w T : Nat} {HS : Heap} {xs : List α} {L' : List HProp} (s : Value) [hh : HasS L s α R sz w T HS xs L'] [RdOk R sz] [RdFlat R]
    (h : ∀ D, ownS R sz w T HS s xs D → Disj H D → H.le (union H D) → SlB R sz w (union H D) s xs → Ex P n W0 Q F (union H D) L' c k) : Ex P n W0 Q F H L c k :=
  ex_lend hh.has fun D hD hd h1 h2 => h D hD hd h1 (ownS_reads (ownS_flat (H' := Heap.empty) hD) (empty_le _) h2)
end
end Go.Sx
set_option maxRecDepth 100000
namespace Go.Proofs.Ytjkiioicjmaeoaa
open Go Go.Sx Go.Proofs
instance : TAgg Try.prog 3 false := ⟨Try.isAgg3⟩
instance : TIt Try.prog 3 .i64 := ⟨Try.underlying3⟩
instance : TZ Try.prog 3 (.int .i64 0) := ⟨Try.zeroValue3⟩
instance : TIn Try.prog 3 1 8 (.int .i64 0) := ⟨_, rfl, rfl, rfl, rfl, rfl, by decide⟩
instance : TSz Try.prog 4 1 := ⟨Try.sizeOf4⟩
instance : TAgg Try.prog 4 false := ⟨Try.isAgg4⟩
instance : TAgg Try.prog 9 false := ⟨Try.isAgg9⟩
instance : TSt Try.prog 9 := ⟨Try.underlying9⟩
instance : TIt Try.prog 21 .i32 := ⟨Try.underlying21⟩
instance : TSl Try.prog 22 25 := ⟨Try.underlying22⟩
instance : TSz Try.prog 25 1 := ⟨Try.sizeOf25⟩
instance : TAgg Try.prog 25 false := ⟨Try.isAgg25⟩
instance : TSl Try.prog 25 37 := ⟨Try.underlying25⟩
instance : TZ Try.prog 25 (.slice none 0 0) := ⟨Try.zeroValue25⟩
instance : TZL Try.prog 25 [.slice none 0 0] := ⟨_, Try.zeroValue25, rfl⟩
instance : TIn Try.prog 25 1 24 (.slice none 0 0) := ⟨_, rfl, rfl, rfl, rfl, rfl, by decide⟩
instance : TSz Try.prog 37 4 := ⟨Try.sizeOf37⟩
instance : TAgg Try.prog 37 true := ⟨Try.isAgg37⟩
instance : TPl Try.prog 37 [(0, 1), (1, 1), (2, 1), (3, 1)] := ⟨_, Try.underlying37, fun w => by simp [List.mapM_cons]⟩
instance : TFd Try.prog 37 0 0 9 := ⟨_, _, Try.underlying37, rfl, rfl, rfl, fun w => ⟨0, Try.sizeOf9 w⟩⟩
instance : TFd Try.prog 37 1 1 3 := ⟨_, _, Try.underlying37, rfl, rfl, rfl, fun w => ⟨0, Try.sizeOf3 w⟩⟩
instance : TFd Try.prog 37 2 2 4 := ⟨_, _, Try.underlying37, rfl, rfl, rfl, fun w => ⟨0, Try.sizeOf4 w⟩⟩
instance : TFd Try.prog 37 3 3 9 := ⟨_, _, Try.underlying37, rfl, rfl, rfl, fun w => ⟨0, Try.sizeOf9 w⟩⟩
instance : TZ Try.prog 37 (.agg #[.string ⟨#[]⟩, .int .i64 0, .bool false, .string ⟨#[]⟩]) := ⟨Try.zeroValue37⟩
instance : TZL Try.prog 37 [.string ⟨#[]⟩, .int .i64 0, .bool false, .string ⟨#[]⟩] := ⟨_, Try.zeroValue37, rfl⟩
instance : TIn Try.prog 37 4 48 (.agg #[.string ⟨#[]⟩, .int .i64 0, .bool false, .string ⟨#[]⟩]) := ⟨_, rfl, rfl, rfl, rfl, rfl, by decide⟩
instance : TSl Try.prog 39 50 := ⟨Try.underlying39⟩
instance : TSz Try.prog 50 2 := ⟨Try.sizeOf50⟩
instance : TAgg Try.prog 50 true := ⟨Try.isAgg50⟩
instance : TPl Try.prog 50 [(0, 1), (1, 1)] := ⟨_, Try.underlying50, fun w => by simp [List.mapM_cons]⟩
instance : TFd Try.prog 50 0 0 9 := ⟨_, _, Try.underlying50, rfl, rfl, rfl, fun w => ⟨0, Try.sizeOf9 w⟩⟩
instance : TZ Try.prog 50 (.agg #[.string ⟨#[]⟩, .string ⟨#[]⟩]) := ⟨Try.zeroValue50⟩
instance : TZL Try.prog 50 [.string ⟨#[]⟩, .string ⟨#[]⟩] := ⟨_, Try.zeroValue50, rfl⟩
instance : TIn Try.prog 50 2 32 (.agg #[.string ⟨#[]⟩, .string ⟨#[]⟩]) := ⟨_, rfl, rfl, rfl, rfl, rfl, by decide⟩
instance : TSz Try.prog 51 1 := ⟨Try.sizeOf51⟩
instance : TAgg Try.prog 51 false := ⟨Try.isAgg51⟩
instance : TIt Try.prog 56 .u64 := ⟨Try.underlying56⟩
instance : TFd Try.prog 58 2 0 56 := ⟨_, _, Try.underlying58, rfl, rfl, rfl, fun w => ⟨0, Try.sizeOf56 w⟩⟩
instance : TIt Try.prog 59 .u32 := ⟨Try.underlying59⟩
instance : TFd Try.prog 61 1 0 58 := ⟨_, _, Try.underlying61, rfl, rfl, rfl, fun w => ⟨0, Try.sizeOf58 w⟩⟩
instance : TFd Try.prog 61 2 1 59 := ⟨_, _, Try.underlying61, rfl, rfl, rfl, fun w => ⟨0, Try.sizeOf59 w⟩⟩
instance : TZL Try.prog 61 [.int .u64 0, .int .u32 0] := ⟨_, Try.zeroValue61, rfl⟩
instance : TSl Try.prog 62 63 := ⟨Try.underlying62⟩
instance : TSz Try.prog 63 1 := ⟨Try.sizeOf63⟩
instance : TAgg Try.prog 63 false := ⟨Try.isAgg63⟩
instance : TPt Try.prog 63 := ⟨_, Try.underlying63⟩
instance : TZ Try.prog 63 (.pointer none) := ⟨Try.zeroValue63⟩
instance : TZL Try.prog 63 [.pointer none] := ⟨_, Try.zeroValue63, rfl⟩
instance : TIn Try.prog 63 1 8 (.pointer none) := ⟨_, rfl, rfl, rfl, rfl, rfl, by decide⟩
instance : TAgg Try.prog 64 false := ⟨Try.isAgg64⟩
instance : TPl Try.prog 66 [(0, 1), (1, 4), (5, 1)] := ⟨_, Try.underlying66, fun w => by simp [List.mapM_cons]⟩
instance : TFd Try.prog 66 0 0 64 := ⟨_, _, Try.underlying66, rfl, rfl, rfl, fun w => ⟨0, Try.sizeOf64 w⟩⟩
instance : TFd Try.prog 66 1 1 37 := ⟨_, _, Try.underlying66, rfl, rfl, rfl, fun w => ⟨3, Try.sizeOf37 w⟩⟩
instance : TFd Try.prog 66 2 5 4 := ⟨_, _, Try.underlying66, rfl, rfl, rfl, fun w => ⟨0, Try.sizeOf4 w⟩⟩
instance : TSz Try.prog 71 1 := ⟨Try.sizeOf71⟩
instance : TAgg Try.prog 71 false := ⟨Try.isAgg71⟩
instance : TMap Try.prog 71 9 3 := ⟨Try.underlying71⟩
instance : TZL Try.prog 71 [.map none] := ⟨_, Try.zeroValue71, rfl⟩
instance : TBody Try.prog 6 Try.f6 (Try.f6.body.getD .skip) 107 := ⟨Try.func6, rfl, Try.ntmps6⟩
instance : TFn Try.prog 8 := ⟨Try.call8, _, Try.func8, rfl⟩
instance : TBody Try.prog 8 Try.f8 (Try.f8.body.getD .skip) 62 := ⟨Try.func8, rfl, Try.ntmps8⟩
instance : TFn Try.prog 9 := ⟨Try.call9, _, Try.func9, rfl⟩
instance : TBody Try.prog 9 Try.f9 (Try.f9.body.getD .skip) 24 := ⟨Try.func9, rfl, Try.ntmps9⟩
instance : TFn Try.prog 10 := ⟨Try.call10, _, Try.func10, rfl⟩
instance : TBody Try.prog 10 Try.f10 (Try.f10.body.getD .skip) 8 := ⟨Try.func10, rfl, Try.ntmps10⟩
instance : TFn Try.prog 11 := ⟨Try.call11, _, Try.func11, rfl⟩
instance : TBody Try.prog 11 Try.f11 (Try.f11.body.getD .skip) 94 := ⟨Try.func11, rfl, Try.ntmps11⟩
instance : TFn Try.prog 12 := ⟨Try.call12, _, Try.func12, rfl⟩
instance : TBody Try.prog 12 Try.f12 (Try.f12.body.getD .skip) 16 := ⟨Try.func12, rfl, Try.ntmps12⟩
instance : TFn Try.prog 14 := ⟨Try.call14, _, Try.func14, rfl⟩
instance : TBody Try.prog 14 Try.f14 (Try.f14.body.getD .skip) 26 := ⟨Try.func14, rfl, Try.ntmps14⟩
instance : TFn Try.prog 15 := ⟨Try.call15, _, Try.func15, rfl⟩
instance : TBody Try.prog 15 Try.f15 (Try.f15.body.getD .skip) 24 := ⟨Try.func15, rfl, Try.ntmps15⟩
instance : TFn Try.prog 16 := ⟨Try.call16, _, Try.func16, rfl⟩
instance : TBody Try.prog 16 Try.f16 (Try.f16.body.getD .skip) 10 := ⟨Try.func16, rfl, Try.ntmps16⟩
instance : TFn Try.prog 17 := ⟨Try.call17, _, Try.func17, rfl⟩
instance : TBody Try.prog 17 Try.f17 (Try.f17.body.getD .skip) 75 := ⟨Try.func17, rfl, Try.ntmps17⟩
instance : TFn Try.prog 18 := ⟨Try.call18, _, Try.func18, rfl⟩
instance : TBody Try.prog 18 Try.f18 (Try.f18.body.getD .skip) 17 := ⟨Try.func18, rfl, Try.ntmps18⟩
instance : TFn Try.prog 19 := ⟨Try.call19, _, Try.func19, rfl⟩
instance : TBody Try.prog 19 Try.f19 (Try.f19.body.getD .skip) 21 := ⟨Try.func19, rfl, Try.ntmps19⟩
instance : TFn Try.prog 20 := ⟨Try.call20, _, Try.func20, rfl⟩
instance : TBody Try.prog 20 Try.f20 (Try.f20.body.getD .skip) 26 := ⟨Try.func20, rfl, Try.ntmps20⟩
instance : TFn Try.prog 23 := ⟨Try.call23, _, Try.func23, rfl⟩
instance : TBody Try.prog 23 Try.f23 (Try.f23.body.getD .skip) 21 := ⟨Try.func23, rfl, Try.ntmps23⟩
instance : TFn Try.prog 24 := ⟨Try.call24, _, Try.func24, rfl⟩
instance : TBody Try.prog 24 Try.f24 (Try.f24.body.getD .skip) 117 := ⟨Try.func24, rfl, Try.ntmps24⟩
instance : TBody Try.prog 25 Try.f25 (Try.f25.body.getD .skip) 11 := ⟨Try.func25, rfl, Try.ntmps25⟩
instance : TFn Try.prog 27 := ⟨Try.call27, _, Try.func27, rfl⟩
instance : TBody Try.prog 27 Try.f27 (Try.f27.body.getD .skip) 23 := ⟨Try.func27, rfl, Try.ntmps27⟩
instance : TFn Try.prog 28 := ⟨Try.call28, _, Try.func28, rfl⟩
instance : TBody Try.prog 28 Try.f28 (Try.f28.body.getD .skip) 16 := ⟨Try.func28, rfl, Try.ntmps28⟩
instance : TFn Try.prog 29 := ⟨Try.call29, _, Try.func29, rfl⟩
instance : TBody Try.prog 29 Try.f29 (Try.f29.body.getD .skip) 34 := ⟨Try.func29, rfl, Try.ntmps29⟩
instance : TFn Try.prog 30 := ⟨Try.call30, _, Try.func30, rfl⟩
instance : TBody Try.prog 30 Try.f30 (Try.f30.body.getD .skip) 84 := ⟨Try.func30, rfl, Try.ntmps30⟩
instance : TFn Try.prog 32 := ⟨Try.call32, _, Try.func32, rfl⟩
instance : TBody Try.prog 32 Try.f32 (Try.f32.body.getD .skip) 42 := ⟨Try.func32, rfl, Try.ntmps32⟩
instance : TFn Try.prog 33 := ⟨Try.call33, _, Try.func33, rfl⟩
instance : TBody Try.prog 33 Try.f33 (Try.f33.body.getD .skip) 8 := ⟨Try.func33, rfl, Try.ntmps33⟩
instance : TFn Try.prog 34 := ⟨Try.call34, _, Try.func34, rfl⟩
instance : TBody Try.prog 34 Try.f34 (Try.f34.body.getD .skip) 27 := ⟨Try.func34, rfl, Try.ntmps34⟩
instance : TFn Try.prog 36 := ⟨Try.call36, _, Try.func36, rfl⟩
instance : TBody Try.prog 36 Try.f36 (Try.f36.body.getD .skip) 24 := ⟨Try.func36, rfl, Try.ntmps36⟩
instance : TFn Try.prog 44 := ⟨Try.call44, _, Try.func44, rfl⟩
instance : TBody Try.prog 44 Try.f44 (Try.f44.body.getD .skip) 10 := ⟨Try.func44, rfl, Try.ntmps44⟩
instance : TFn Try.prog 46 := ⟨Try.call46, _, Try.func46, rfl⟩
instance : TBody Try.prog 46 Try.f46 (Try.f46.body.getD .skip) 7 := ⟨Try.func46, rfl, Try.ntmps46⟩
instance : TFn Try.prog 52 := ⟨Try.call52, _, Try.func52, rfl⟩
instance : TBody Try.prog 52 Try.f52 (Try.f52.body.getD .skip) 13 := ⟨Try.func52, rfl, Try.ntmps52⟩
instance : TFn Try.prog 55 := ⟨Try.call55, _, Try.func55, rfl⟩
instance : TBody Try.prog 55 Try.f55 (Try.f55.body.getD .skip) 19 := ⟨Try.func55, rfl, Try.ntmps55⟩
instance : TMix Try.prog := ⟨rfl⟩
end Go.Proofs.Ytjkiioicjmaeoaa
