/- Elements where the order is open; texts joined; blocks of any kind that are only read from now on. No program in sight. -/
import Derived.Test.YtnfmjkjhiolfdaaDoorE10
set_option linter.unusedVariables false
set_option linter.unusedSimpArgs false
namespace Go.Sx
open Go
theorem gd_and {p q : Prop} {u : Value} (h : p) : gd (p ∧ q) u = gd q u := by
  by_cases hq : q
  · rw [gd_T hq, gd_T ⟨h, hq⟩]
  · rw [gd_F hq, gd_F fun e => hq e.2]
instance (priority := high) {p q : Prop} {u : Value} : UnG p (gd (p ∧ q) u) (gd q u) := ⟨fun h => gd_and h⟩
instance {P : Program} {x : Operand} {T : TypeId} {p : Prop} {dp : Decidable p} : POp P (.unOp .not T x) [.bool (@decide p dp)] True (.bool (@decide (¬ p) instDecidableNot)) := ⟨fun _ h => (op_not (opvs1 h)).cast (by simp)⟩
section
variable {P : Program} {n : Nat} {W0 : World} {Q : Exit → Act → World → Prop} {F : Slots} {H H0 : Heap} {L L0 : List HProp} {m fuel : Nat} {ops : Array Oper} {listed : Array Bool} {k : List Fr} {op : Op} {ty ty' : TypeId} {pos pos' : String} {aft aft' : Array Edge} {d d' : Tmp} {v : Value} {vs us : List Value} {g g' : Option (Nat × Bool)} {gv gv' : Option (Value × Bool)} {p : Prop}
/-- an element of a slice that is only read: its place, its value -/
theorem gny_el (i j : Nat) {α : Type} {R : Rd α} {val : α → Value} {ok : α → Prop} {T : TypeId} {t e : TypeId} {x y : Operand} {xs : List α} {ii : Int} {jj : Nat} {kd : IntKind} [h1 : R1 R val ok] [hR : RdOk R 1] [TSl P t T] [TSz P T 1] [TAgg P e false] (hi : ops[i]? = some ⟨some d, .indexAddr t x y, ty, pos, aft, g⟩) (hj : ops[j]? = some ⟨some d', .load e (.tmp d), ty', pos', aft', g'⟩) (hg : gval ops F g = some gv) [hb : GOk gv true] (hg' : gval ops F g' = some gv') [hb' : GOk gv' true]
    (hv : opvs F [x, y] = some [v, .int kd ii]) [hin : NatOf ii jj] (hs : SlR R 1 H0 v xs) (hlt : jj < xs.length) (h : AnyO P n W0 Q ((d', val (xs[jj]'hlt)) :: F) H H0 L L0 m ops fuel ((listed.setIfInBounds i true).setIfInBounds j true) k) (hn : fget F d = none := by rfl) (hok : takeOk ops m listed i = true := by decide +kernel) (hok' : takeOk ops m (listed.setIfInBounds i true) j = true := by decide +kernel)
    (hQ : ∀ v c a w, Kx P Q k (.panic c) (a.put (some d) v) w → Kx P Q k (.panic c) a w := by exact fun _ _ _ _ h => h) (hQ' : ∀ v c a w, Kx P Q k (.panic c) (a.put (some d') v) w → Kx P Q k (.panic c) a w := by exact fun _ _ _ _ h => h)
    (hl : H0.le H := by first | exact Go.Sx.Heap.le.refl _ | assumption | ((try simp only [Go.Sx.le_self] at *); (repeat (first | exact Go.Sx.Heap.le.refl _ | assumption | refine Go.Sx.Heap.le.trans ?_ ‹Go.Sx.Heap.le _ _›)))) (hsub : Sub L L0 := by (repeat (first | exact Go.Sx.Sub.refl _ | exact Go.Sx.Sub.nil _ | (apply Go.Sx.sub_pick; (repeat (first | exact Go.Sx.Has.here | apply Go.Sx.Has.there)); skip) | apply Go.Sx.Sub.drop))) (hd : Nat.blt d n = true := by rfl) (hd' : Nat.blt d' n = true := by rfl) : AnyO P n W0 Q F H H0 L L0 m ops (fuel + 1 + 1) listed k := by
  refine gny_ixp i hi hg hv hs hlt (fun b o c hr hc => ?_) hok hQ hl hsub hd
  obtain ⟨rfl, _⟩ := h1.h hc
  refine gny_pure (gv := gv') j hj (gval_new hn hg') (op_loadH (b := b) (off := o) (by simp [opv, fget]) (hrow_cell hr 0 rfl rfl)) ?_ hok' (hQ' _) hl hsub hd'
  exact ⟨h.run.sub (Sub.refl _) (fsub_new hn)⟩
end
instance {P : Program} {x y : Operand} {T T' : TypeId} {s t : ByteArray} : POp P (.binOp .add T x y T') [.string s, .string t] (s.size + t.size ≤ 9223372036854775807) (.string (s ++ t)) := ⟨fun hs h => .mk fun a w hF _ => by
  simp only [execOp, hF.opv (opvs2 h).1, hF.opv (opvs2 h).2]
  have h' : ¬ ((9223372036854775807 : Int) < (s.size : Int) + (t.size : Int)) := by omega
  have h2 : (Op.stringOp .add s t).run P w = .ok (.string (s ++ t)) w := by simp [Op.stringOp, h']
  simp [go_sem, h2]⟩
section
variable {P : Program} {n : Nat} {W0 : World} {Q : Exit → Act → World → Prop} {F : Slots} {H : Heap} {L R : List HProp} {ops : Array Oper} {rest : List Oper} {k : List Fr} {e : Exit} {c : Code} {b : Nat} {o : Obj}
theorem sat_frz {G : Act → World → Prop} (hh : Has L (pt b o) R) (h : H b = none → H.le (upd H b o) → Sat n W0 F (upd H b o) R G) : Sat n W0 F H L G := fun a w hF hS => by
  obtain ⟨h0, h1⟩ := (hS.sub hh.to).freeze
  exact h h0 (le_upd h0) a w hF h1
theorem row_hrow {T : TypeId} {cs : List Value} : HRow (upd H b (.cells cs.toArray T (0, 0))) b 0 cs := fun j v hj => by
  simp only [hcell, upd_same]; simpa using hj
/-- an owned row of cells, only read from now on -/
theorem out_frzR {T : TypeId} {cs : List Value} (hh : Has L (row b T cs) R) (h : ∀ H', H.le H' → HRow H' b 0 cs → Out P n W0 Q F H' R e k) : Out P n W0 Q F H L e k := ⟨sat_frz hh fun _ hl => (h _ hl row_hrow).run⟩
theorem ops_frzR {T : TypeId} {cs : List Value} (hh : Has L (row b T cs) R) (h : ∀ H', H.le H' → HRow H' b 0 cs → Ops P n W0 Q F H' R false ops rest k) : Ops P n W0 Q F H L false ops rest k := ⟨sat_frz hh fun _ hl => (h _ hl row_hrow).run⟩
theorem ex_frzR {T : TypeId} {cs : List Value} (hh : Has L (row b T cs) R) (h : ∀ H', H.le H' → HRow H' b 0 cs → Ex P n W0 Q F H' R c k) : Ex P n W0 Q F H L c k := ⟨sat_frz hh fun _ hl => (h _ hl row_hrow).run⟩
section
variable {κ ν : Type} {ek : κ → Value} {RV : Rd ν} {ag : Bool} {H0 : Heap} {ms : List (κ × ν)}
theorem sat_frzM {sz : Nat} [RdOk RV sz] {G : Act → World → Prop} (hh : Has L (mapO ek RV ag H0 b ms) R) (hl0 : H0.le H) (h : ∀ H', H.le H' → mapH ek RV ag H' b ms → Sat n W0 F H' R G) : Sat n W0 F H L G := fun a w hF hS => by
  obtain ⟨hA, hR, ⟨es, ck, pa, e⟩, r, d, dA, dR, lA, lR⟩ := (hS.sub hh.to).parts
  have hS' : St W0 H w (pt b (.map es ck) :: R) := St.of_parts hS.env hS.ro e r d dA dR lA lR
  obtain ⟨h0, h1⟩ := hS'.freeze
  exact h _ (le_upd h0) ⟨es, ck, pa.mono (hl0.trans (le_upd h0)), upd_same _ _ _⟩ a w hF h1
theorem out_frzMap {sz : Nat} [RdOk RV sz] (hh : Has L (mapO ek RV ag H0 b ms) R) (hl0 : H0.le H) (h : ∀ H', H.le H' → mapH ek RV ag H' b ms → Out P n W0 Q F H' R e k) : Out P n W0 Q F H L e k := ⟨sat_frzM hh hl0 fun H' hl hm => (h H' hl hm).run⟩
end
end
section
variable {q : Bool} {κ ν : Type} [DecidableEq κ] {P : Program} {n : Nat} {W0 : World} {Q : Exit → Act → World → Prop} {F : Slots} {H H0 : Heap} {L R : List HProp} {ops : Array Oper} {rest : List Oper} {k : List Fr} {ty : TypeId} {pos : String} {aft : Array Edge} {d : Tmp} {g : Option (Nat × Bool)} {gv : Option (Value × Bool)} {p : Prop} {b : Nat}
variable {ek : κ → Value} {RV : Rd ν} {ag : Bool} {t kt et : TypeId} {ms : List (κ × ν)} {ky : κ}
/-- a key's value, put as it is at the call -/
class KeyV (ek : outParam (κ → Value)) (v : Value) (ky : outParam κ) : Prop where
  h : v = ek ky
instance {k : IntKind} {x : Int} : KeyV (fun x : Int => Value.int k x) (.int k x) x := ⟨rfl⟩
instance {s : ByteArray} : KeyV Value.string (.string s) s := ⟨rfl⟩
theorem ops_makeMap {κ ν : Type} [DecidableEq κ] (ek : κ → Value) (RV : Rd ν) (ag : Bool) (hg : gval ops F g = some gv) [hb : GOk gv true] (hk : ∀ b, H b = none → Ops P n W0 Q ((d, .map (some b)) :: F) H (mapO ek RV ag H b ([] : List (κ × ν)) :: L) false ops rest k) (hd : Nat.blt d n = true := by rfl) : Ops P n W0 Q F H L false ops (⟨some d, .makeMap t none, ty, pos, aft, g⟩ :: rest) k :=
  ops_w hg hd (op_makeMap hk)
theorem ops_lkH {x y : Operand} {kv : Value} {val : ν → Value} {okp : ν → Prop} {z : ν} [h1 : R1 RV val okp] [hT : TMap P t kt et] [hV : KeyV ek kv ky] [hK : TKey P kt ek] [hZ : TZ P et (val z)] (hg : gval ops F g = some gv) [hb : GOk gv true] (hv : opvs F [x, y] = some [.map (some b), kv]) (hh : mapH ek RV false H b ms)
    (hk : Ops P n W0 Q ((d, val ((mget ky ms).getD z)) :: F) H L q ops rest k) (hd : Nat.blt d n = true := by rfl) : Ops P n W0 Q F H L q ops (⟨some d, .lookup t x y false, ty, pos, aft, g⟩ :: rest) k :=
  ops_pure hg hd (op_lkH (d := z) (opvs2 hv).1 ((opvs2 hv).2.trans (congrArg some hV.h)) hh) hk
theorem ops_glkH {x y : Operand} {mv kw kv : Value} {val : ν → Value} {okp : ν → Prop} {z : ν} [h1 : R1 RV val okp] [hT : TMap P t kt et] (hg : gval ops F g = some gv) [hs : GSym gv p] (hv : opvs F [x, y] = some [mv, kw]) [hu : UnG p mv (.map (some b))] [hu' : UnG p kw kv] [hV : KeyV ek kv ky] [hK : TKey P kt ek] [hZ : TZ P et (val z)] (hh : mapH ek RV false H b ms)
    (hk : Ops P n W0 Q ((d, gd p (val ((mget ky ms).getD z))) :: F) H L q ops rest k) (hd : Nat.blt d n = true := by rfl) : Ops P n W0 Q F H L q ops (⟨some d, .lookup t x y false, ty, pos, aft, g⟩ :: rest) k :=
  ops_gsym hg (fun hp => op_lkH (d := z) ((opvs2 hv).1.trans (by rw [hu.h hp])) ((opvs2 hv).2.trans (by rw [hu'.h hp, hV.h])) hh) hk hd
theorem ops_lkO {x y : Operand} {kv : Value} {val : ν → Value} {okp : ν → Prop} {z : ν} [h1 : R1 RV val okp] [hT : TMap P t kt et] [hV : KeyV ek kv ky] [hK : TKey P kt ek] [hZ : TZ P et (val z)] (hg : gval ops F g = some gv) [hb : GOk gv true] (hv : opvs F [x, y] = some [.map (some b), kv]) (hh : Has L (mapO ek RV false H0 b ms) R)
    (hk : Ops P n W0 Q ((d, val ((mget ky ms).getD z)) :: F) H L q ops rest k) (hd : Nat.blt d n = true := by rfl) : Ops P n W0 Q F H L q ops (⟨some d, .lookup t x y false, ty, pos, aft, g⟩ :: rest) k :=
  ops_pure hg hd (op_lkO (d := z) (opvs2 hv).1 ((opvs2 hv).2.trans (congrArg some hV.h)) hh) hk
theorem ops_update {x y z : Operand} {kv v : Value} {u : ν} {cs : List Value} [hT : TMap P t kt et] [hV : KeyV ek kv ky] [hK : TKey P kt ek] (hv : opvs F [x, y, z] = some [.map (some b), kv, v]) (hc : v = ofC ag cs) (hu : RV H0 cs u) (hh : Has L (mapO ek RV ag H0 b ms) R)
    (hk : Ops P n W0 Q F H (mapO ek RV ag H0 b (mset ky u ms) :: R) false ops rest k) : Ops P n W0 Q F H L false ops (⟨none, .mapUpdate t x y z, ty, pos, aft, none⟩ :: rest) k :=
  ops_n (op_update (opvs3 hv).1 ((opvs3 hv).2.1.trans (congrArg some hV.h)) (opvs3 hv).2.2 hc hu hh hk)
end
end Go.Sx
