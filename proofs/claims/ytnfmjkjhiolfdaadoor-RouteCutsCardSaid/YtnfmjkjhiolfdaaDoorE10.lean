/- Guards that hang on a question; calls that only answer. No program in sight. -/
import Derived.Test.YtnfmjkjhiolfdaaDoorE9
set_option linter.unusedVariables false
set_option linter.unusedSimpArgs false
namespace Go.Sx
open Go
/-- v, where p holds -/
noncomputable def gd (p : Prop) (v : Value) : Value := @ite _ p (Classical.propDecidable p) v undef
theorem gd_T {p : Prop} {v : Value} (h : p) : gd p v = v := by unfold gd; rw [if_pos h]
theorem gd_F {p : Prop} {v : Value} (h : ¬ p) : gd p v = undef := by unfold gd; rw [if_neg h]
/-- a guard that asks for p -/
class GSym (gv : Option (Value × Bool)) (p : outParam Prop) : Prop where
  t : p → GOk gv true
  f : ¬ p → GOk gv false
instance {p : Prop} {dp : Decidable p} : GSym (some (.bool (@decide p dp), true)) p := ⟨fun h => ⟨by simp [h]⟩, fun h => ⟨by simp [h, gno]⟩⟩
instance {p : Prop} {dp : Decidable p} : GSym (some (.bool (@decide p dp), false)) (¬ p) := ⟨fun h => ⟨by simp [h]⟩, fun h => ⟨by have := Classical.not_not.1 h; simp [this, gno]⟩⟩
instance (priority := low) {b w : Bool} : GSym (some (.bool b, w)) (b = w) := ⟨fun h => ⟨by simp [h]⟩, fun h => ⟨by simp [gno, h]⟩⟩
instance {r p : Prop} {dp : Decidable p} : GSym (some (gd r (.bool (@decide p dp)), true)) (r ∧ p) := ⟨fun h => ⟨by simp [gd_T h.1, h.2]⟩, fun h => ⟨by
  by_cases hr : r
  · have : ¬ p := fun hp => h ⟨hr, hp⟩
    simp [gd_T hr, this, gno]
  · simp [gd_F hr, undef, gno]⟩⟩
instance {r p : Prop} {dp : Decidable p} : GSym (some (gd r (.bool (@decide p dp)), false)) (r ∧ ¬ p) := ⟨fun h => ⟨by simp [gd_T h.1, h.2]⟩, fun h => ⟨by
  by_cases hr : r
  · have : p := Classical.not_not.1 fun hp => h ⟨hr, hp⟩
    simp [gd_T hr, this, gno]
  · simp [gd_F hr, undef, gno]⟩⟩
instance (priority := low) {r : Prop} {b w : Bool} : GSym (some (gd r (.bool b), w)) (r ∧ b = w) := ⟨fun h => ⟨by simp [gd_T h.1, h.2]⟩, fun h => ⟨by
  by_cases hr : r
  · have : ¬ b = w := fun hp => h ⟨hr, hp⟩
    simp [gd_T hr, this, gno]
  · simp [gd_F hr, undef, gno]⟩⟩
/-- what v is where p holds -/
class UnG (p : Prop) (v : Value) (u : outParam Value) : Prop where
  h : p → v = u
instance (priority := low) {p : Prop} {v : Value} : UnG p v v := ⟨fun _ => rfl⟩
instance {p q : Prop} {v u : Value} [h : UnG p v u] : UnG (p ∧ q) v u := ⟨fun x => h.h x.1⟩
instance (priority := high) {p : Prop} {u : Value} : UnG p (gd p u) u := ⟨fun h => gd_T h⟩
class UnGs (p : Prop) (vs : List Value) (us : outParam (List Value)) : Prop where
  h : p → vs = us
instance {p : Prop} : UnGs p [] [] := ⟨fun _ => rfl⟩
instance {p : Prop} {v u : Value} {vs us : List Value} [h : UnG p v u] [h' : UnGs p vs us] : UnGs p (v :: vs) (u :: us) := ⟨fun x => by rw [h.h x, h'.h x]⟩
section
variable {P : Program} {c x y : Operand} {p q : Prop} {dp : Decidable p} {dq : Decidable q}
instance : POp P (.pick c x y) [.bool (@decide p dp), gd p (.bool (@decide q dq)), .bool false] True (.bool (@decide (p ∧ q) inferInstance)) := ⟨fun {n W0 F H L dst ty pos aft g} _ h => by
  by_cases hp : p
  · exact (op_pickT (v := gd p (.bool (@decide q dq))) (by rw [(opvs3 h).1]; simp [hp]) (opvs3 h).2.1).cast (by rw [gd_T hp]; simp [hp])
  · exact (op_pickF (v := .bool false) (by rw [(opvs3 h).1]; simp [hp]) (opvs3 h).2.2).cast (by simp [hp])⟩
instance : POp P (.pick c x y) [.bool (@decide p dp), .bool true, gd (¬ p) (.bool (@decide q dq))] True (.bool (@decide (p ∨ q) inferInstance)) := ⟨fun {n W0 F H L dst ty pos aft g} _ h => by
  by_cases hp : p
  · exact (op_pickT (v := .bool true) (by rw [(opvs3 h).1]; simp [hp]) (opvs3 h).2.1).cast (by simp [hp])
  · exact (op_pickF (v := gd (¬ p) (.bool (@decide q dq))) (by rw [(opvs3 h).1]; simp [hp]) (opvs3 h).2.2).cast (by rw [gd_T hp]; simp [hp])⟩
instance (priority := low) {b : Bool} : POp P (.pick c x y) [.bool (@decide p dp), gd p (.bool b), .bool false] True (.bool (@decide (p ∧ b = true) inferInstance)) := ⟨fun {n W0 F H L dst ty pos aft g} _ h => by
  by_cases hp : p
  · exact (op_pickT (v := gd p (.bool b)) (by rw [(opvs3 h).1]; simp [hp]) (opvs3 h).2.1).cast (by rw [gd_T hp]; simp [hp])
  · exact (op_pickF (v := .bool false) (by rw [(opvs3 h).1]; simp [hp]) (opvs3 h).2.2).cast (by simp [hp])⟩
instance (priority := low) {b : Bool} : POp P (.pick c x y) [.bool (@decide p dp), .bool true, gd (¬ p) (.bool b)] True (.bool (@decide (p ∨ b = true) inferInstance)) := ⟨fun {n W0 F H L dst ty pos aft g} _ h => by
  by_cases hp : p
  · exact (op_pickT (v := .bool true) (by rw [(opvs3 h).1]; simp [hp]) (opvs3 h).2.1).cast (by simp [hp])
  · exact (op_pickF (v := gd (¬ p) (.bool b)) (by rw [(opvs3 h).1]; simp [hp]) (opvs3 h).2.2).cast (by rw [gd_T hp]; simp [hp])⟩
instance (priority := low) {b : Bool} : POp P (.pick c x y) [.bool b, gd (b = true) (.bool (@decide q dq)), .bool false] True (.bool (@decide (b = true ∧ q) inferInstance)) := ⟨fun {n W0 F H L dst ty pos aft g} _ h => by
  cases b with
  | true => exact (op_pickT (v := gd (true = true) (.bool (@decide q dq))) (by rw [(opvs3 h).1]) (opvs3 h).2.1).cast (by rw [gd_T rfl]; simp)
  | false => exact (op_pickF (v := .bool false) (by rw [(opvs3 h).1]) (opvs3 h).2.2).cast (by simp)⟩
instance (priority := low) {b : Bool} : POp P (.pick c x y) [.bool b, .bool true, gd (b = false) (.bool (@decide q dq))] True (.bool (@decide (b = true ∨ q) inferInstance)) := ⟨fun {n W0 F H L dst ty pos aft g} _ h => by
  cases b with
  | true => exact (op_pickT (v := .bool true) (by rw [(opvs3 h).1]) (opvs3 h).2.1).cast (by simp)
  | false => exact (op_pickF (v := gd (false = false) (.bool (@decide q dq))) (by rw [(opvs3 h).1]) (opvs3 h).2.2).cast (by rw [gd_T rfl]; simp)⟩
end
section
variable {q : Bool} {P : Program} {n : Nat} {W0 : World} {Q : Exit → Act → World → Prop} {F : Slots} {H : Heap} {L : List HProp} {ops : Array Oper} {rest : List Oper} {k : List Fr} {op : Op} {ty ty' : TypeId} {pos pos' : String} {aft aft' : Array Edge} {d d' : Tmp} {g g' : Option (Nat × Bool)} {v : Value} {vs us : List Value} {gv gv' : Option (Value × Bool)} {p : Prop}
theorem ops_gsym (hg : gval ops F g = some gv) [hs : GSym gv p] (h : p → OpP P n W0 ⟨some d, op, ty, pos, aft, g⟩ F H L v) (hk : Ops P n W0 Q ((d, gd p v) :: F) H L q ops rest k) (hd : Nat.blt d n = true) :
    Ops P n W0 Q F H L q ops (⟨some d, op, ty, pos, aft, g⟩ :: rest) k := by
  by_cases hp : p
  · haveI := hs.t hp
    rw [gd_T hp] at hk
    exact ops_pure hg hd (h hp) hk
  · haveI := hs.f hp
    rw [gd_F hp] at hk
    exact ops_skip hg hk hd
theorem ops_gp {side : Prop} (hg : gval ops F g = some gv) [hs : GSym gv p] (hv : opvs F (opsOf op) = some vs) [hu : UnGs p vs us] [hp : POp P op us side v] (hk : Ops P n W0 Q ((d, gd p v) :: F) H L q ops rest k)
    (hside : p → side := by intro hg; first | exact True.intro | omega | assumption | (unfold Go.Sx.fits; omega) | (refine ⟨?_, ?_⟩ <;> (try unfold Go.Sx.fits) <;> omega)) (hd : Nat.blt d n = true := by rfl) : Ops P n W0 Q F H L q ops (⟨some d, op, ty, pos, aft, g⟩ :: rest) k :=
  ops_gsym hg (fun h => hp.run (hside h) (by rw [hv, hu.h h])) hk hd
theorem ops_gB {r : Prop} {dr : Decidable r} (hg : gval ops F g = some gv) [hs : GSym gv p] (hv : opvs F (opsOf op) = some vs) [hu : UnGs p vs us] [hp : BOp P op us r dr] (hk : Ops P n W0 Q ((d, gd p (.bool (@decide r dr))) :: F) H L q ops rest k)
    (hd : Nat.blt d n = true := by rfl) : Ops P n W0 Q F H L q ops (⟨some d, op, ty, pos, aft, g⟩ :: rest) k :=
  ops_gsym hg (fun h => hp.run (by rw [hv, hu.h h])) hk hd
theorem ops_gld {x : Operand} {t : TypeId} {xv : Value} {b off T : Nat} {cs : List Value} {R : List HProp} [TAgg P t false] (hg : gval ops F g = some gv) [hs : GSym gv p] (hx : opv F x = some xv) [hu : UnG p xv (.pointer (some ⟨b, off, none⟩))] [h : HasRow L b T cs R] (hc : cs[off]? = some v)
    (hk : Ops P n W0 Q ((d, gd p v) :: F) H L q ops rest k) (hd : Nat.blt d n = true := by rfl) : Ops P n W0 Q F H L q ops (⟨some d, .load t x, ty, pos, aft, g⟩ :: rest) k :=
  ops_gsym hg (fun hp => op_load (by rw [hx, hu.h hp]) h.has hc) hk hd
theorem ops_gldN {x : Operand} {t : TypeId} {xv : Value} {b off T m : Nat} {cs ws : List Value} {R : List HProp} [TAgg P t true] [TSz P t m] (hg : gval ops F g = some gv) [hs : GSym gv p] (hx : opv F x = some xv) [hu : UnG p xv (.pointer (some ⟨b, off, none⟩))] [h : HasRow L b T cs R] (hc : pickC cs off m = some ws)
    (hk : Ops P n W0 Q ((d, gd p (.agg ws.toArray)) :: F) H L q ops rest k) (hd : Nat.blt d n = true := by rfl) : Ops P n W0 Q F H L q ops (⟨some d, .load t x, ty, pos, aft, g⟩ :: rest) k :=
  ops_gsym hg (fun hp => op_loadN (by rw [hx, hu.h hp]) h.has (pickC_pick hc)) hk hd
theorem ops_gldH {x : Operand} {t : TypeId} {xv : Value} {b off o i : Nat} {cs : List Value} [TAgg P t false] (hg : gval ops F g = some gv) [hs : GSym gv p] (hx : opv F x = some xv) [hu : UnG p xv (.pointer (some ⟨b, o, none⟩))] (h : HRow H b off cs) (ho : o = off + i) (hc : cs[i]? = some v)
    (hk : Ops P n W0 Q ((d, gd p v) :: F) H L q ops rest k) (hd : Nat.blt d n = true := by rfl) : Ops P n W0 Q F H L q ops (⟨some d, .load t x, ty, pos, aft, g⟩ :: rest) k :=
  ops_gsym hg (fun hp => op_loadH (by rw [hx, hu.h hp]) (hrow_cell h i ho.symm hc)) hk hd
theorem ops_gldH0 {x : Operand} {t : TypeId} {xv : Value} {b o : Nat} {cs : List Value} [TAgg P t false] (hg : gval ops F g = some gv) [hs : GSym gv p] (hx : opv F x = some xv) [hu : UnG p xv (.pointer (some ⟨b, o, none⟩))] (h : HRow H b 0 cs) (hc : cs[o]? = some v)
    (hk : Ops P n W0 Q ((d, gd p v) :: F) H L q ops rest k) (hd : Nat.blt d n = true := by rfl) : Ops P n W0 Q F H L q ops (⟨some d, .load t x, ty, pos, aft, g⟩ :: rest) k :=
  ops_gsym hg (fun hp => op_loadH (by rw [hx, hu.h hp]) (hrow_cell h o (Nat.zero_add _) hc)) hk hd
theorem ops_ldHz {x : Operand} {t : TypeId} {b o : Nat} {cs : List Value} [TAgg P t false] (hg : gval ops F g = some gv) [hb : GOk gv true] (hx : opv F x = some (.pointer (some ⟨b, o, none⟩))) (h : HRow H b 0 cs) (hc : cs[o]? = some v)
    (hk : Ops P n W0 Q ((d, v) :: F) H L q ops rest k) (hd : Nat.blt d n = true := by rfl) : Ops P n W0 Q F H L q ops (⟨some d, .load t x, ty, pos, aft, g⟩ :: rest) k :=
  ops_pure hg hd (op_loadH hx (hrow_cell h o (Nat.zero_add _) hc)) hk
theorem ops_ldHNz {x : Operand} {t : TypeId} {b off m : Nat} {cs ws : List Value} [TAgg P t true] [TSz P t m] (hg : gval ops F g = some gv) [hb : GOk gv true] (hx : opv F x = some (.pointer (some ⟨b, off, none⟩))) (h : HRow H b 0 cs) (hc : pickC cs off m = some ws)
    (hk : Ops P n W0 Q ((d, .agg ws.toArray) :: F) H L q ops rest k) (hd : Nat.blt d n = true := by rfl) : Ops P n W0 Q F H L q ops (⟨some d, .load t x, ty, pos, aft, g⟩ :: rest) k :=
  ops_pure hg hd (op_loadNH hx (fun j v hj => by have := h (off + j) v ((pickC_pick hc).at.1 j v hj); rwa [Nat.zero_add] at this) (pickC_pick hc).at.2) hk
theorem ops_gext {x : Operand} {xv : Value} {ws : Array Value} {i : Nat} (hg : gval ops F g = some gv) [hs : GSym gv p] (hx : opv F x = some xv) [hu : UnG p xv (.tuple ws)] (hi : ws.toList[i]? = some v) (hk : Ops P n W0 Q ((d, gd p v) :: F) H L q ops rest k) (hd : Nat.blt d n = true := by rfl) :
    Ops P n W0 Q F H L q ops (⟨some d, .extract x i, ty, pos, aft, g⟩ :: rest) k := ops_gsym hg (fun hp => op_extract (by rw [hx, hu.h hp]) (by simpa using hi)) hk hd
theorem fget_skip {d d' : Tmp} {u : Value} {F : Slots} (h : Nat.beq d d' = false) : fget ((d, u) :: F) d' = fget F d' := by simp [fget, h]
/-- an element of a slice that is only read, at once -/
theorem ops_gix {α : Type} [Inhabited α] {R : Rd α} {val : α → Value} {ok : α → Prop} {T e t : TypeId} {x y : Operand} {xs : List α} {i : Int} {j : Nat} {kd : IntKind} {u w : Value} [h1 : R1 R val ok] [hR : RdOk R 1] [TSl P T e] [TSz P e 1] [TAgg P t false] (hg : gval ops F g = some gv) [hs : GSym gv p]
    (hg' : gval ops F g' = some gv) (hv : opvs F [x, y] = some [u, w]) [hu : UnG p u v] [hw : UnG p w (.int kd i)] [hi : NatOf i j] (hsl : SlR R 1 H v xs) (hj : p → j < xs.length) (hk : Ops P n W0 Q ((d', gd p (val (xs.getD j default))) :: F) H L q ops rest k) (hn : fget F d = none := by rfl) (hd : Nat.blt d n = true := by rfl) (hd' : Nat.blt d' n = true := by rfl) :
    Ops P n W0 Q F H L q ops (⟨some d, .indexAddr T x y, ty, pos, aft, g⟩ :: ⟨some d', .load t (.tmp d), ty', pos', aft', g'⟩ :: rest) k := by
  by_cases hp : p
  · haveI := hs.t hp
    rw [gd_T hp] at hk
    have hj' := hj hp
    have hv' : opvs F [x, y] = some [v, .int kd i] := by rw [hv, hu.h hp, hw.h hp]
    refine ops_ix hg hg' hv' hsl hj' ?_ hn hd hd'
    have : xs.getD j default = xs[j] := by simp [List.getD, List.getElem?_eq_getElem hj']
    rw [this] at hk; exact hk
  · haveI := hs.f hp
    rw [gd_F hp] at hk
    refine ops_skip hg (ops_skip (gval_new hn hg') (ops_fsub (fsub_new hn) hk) hd') hd
/-- a call that only answers; A: what it is lent -/
theorem Take.from {L A R : List HProp} (h : Take L A R) : Sub (A ++ R) L := by
  induction h with
  | nil => exact Sub.refl _
  | cons h _ ih => exact (Sub.cons ih).trans h.from
abbrev Pure (v : Value) (H : Heap) (A : List HProp) (r : Value) (H' : Heap) (B : List HProp) : Prop := r = v ∧ B = A ∧ H' = H
theorem ops_pcall {f : FuncId} {l : List Operand} {ts : Array TypeId} {A R : List HProp} [TFn P f] (hg : gval ops F g = some gv) [hb : GOk gv true] (ha : opvs F l = some vs) (hs : Ct P f vs.toArray W0 H A (fun r H' B => r = v ∧ B = A ∧ H' = H))
    (hk : Ops P n W0 Q ((d, v) :: F) H L false ops rest k) (ht : Take L A R := by repeat (first | exact Go.Sx.Take.nil | (apply Go.Sx.Take.cons; focus (repeat (first | exact Go.Sx.Has.here | apply Go.Sx.Has.there)))))
    (hd : Nat.blt d n = true := by rfl) : Ops P n W0 Q F H L false ops (⟨some d, .call ⟨.value (.func f), l.toArray, ts⟩, ty, pos, aft, g⟩ :: rest) k :=
  ops_call hg ha hs (fun r H' B hl ⟨e1, e2, e3⟩ => by subst e1 e2 e3; exact ops_L ht.from hk) ht hd
theorem ops_gcall {f : FuncId} {l : List Operand} {ts : Array TypeId} {A R : List HProp} [TFn P f] (hg : gval ops F g = some gv) [hs : GSym gv p] (ha : opvs F l = some vs) [hu : UnGs p vs us] (hc : p → Ct P f us.toArray W0 H A (fun r H' B => r = v ∧ B = A ∧ H' = H))
    (hk : Ops P n W0 Q ((d, gd p v) :: F) H L false ops rest k) (ht : Take L A R := by repeat (first | exact Go.Sx.Take.nil | (apply Go.Sx.Take.cons; focus (repeat (first | exact Go.Sx.Has.here | apply Go.Sx.Has.there)))))
    (hd : Nat.blt d n = true := by rfl) : Ops P n W0 Q F H L false ops (⟨some d, .call ⟨.value (.func f), l.toArray, ts⟩, ty, pos, aft, g⟩ :: rest) k := by
  by_cases hp : p
  · haveI := hs.t hp
    rw [gd_T hp] at hk
    exact ops_pcall hg (by rw [ha, hu.h hp]) (hc hp) hk ht hd
  · haveI := hs.f hp
    rw [gd_F hp] at hk
    exact ops_skip hg hk hd
end
/-! ### The same where the order is open -/
section
variable {P : Program} {n : Nat} {W0 : World} {Q : Exit → Act → World → Prop} {F : Slots} {H H0 : Heap} {L L0 : List HProp} {m fuel : Nat} {ops : Array Oper} {listed : Array Bool} {k : List Fr} {op : Op} {ty : TypeId} {pos : String} {aft : Array Edge} {d : Tmp} {v : Value} {vs us : List Value} {g : Option (Nat × Bool)} {gv : Option (Value × Bool)} {p : Prop}
theorem gny_sym (i : Nat) (hi : ops[i]? = some ⟨some d, op, ty, pos, aft, g⟩) (hg : gval ops F g = some gv) [hs : GSym gv p] (hv : p → OpP P n W0 ⟨some d, op, ty, pos, aft, g⟩ F H0 L0 v) (h : AnyO P n W0 Q ((d, gd p v) :: F) H H0 L L0 m ops fuel (listed.setIfInBounds i true) k)
    (hok : takeOk ops m listed i = true) (hQ : ∀ v c a w, Kx P Q k (.panic c) (a.put (some d) v) w → Kx P Q k (.panic c) a w) (hl : H0.le H) (hsub : Sub L L0) (hd : Nat.blt d n = true) : AnyO P n W0 Q F H H0 L L0 m ops (fuel + 1) listed k := by
  by_cases hp : p
  · haveI := hs.t hp
    rw [gd_T hp] at h
    exact gny_pure i hi hg (hv hp) h hok (hQ _) hl hsub hd
  · haveI := hs.f hp
    rw [gd_F hp] at h
    exact gny_skip i hi hg h hok hQ hl hsub hd
theorem gny_sp (i : Nat) {side : Prop} (hi : ops[i]? = some ⟨some d, op, ty, pos, aft, g⟩) (hg : gval ops F g = some gv) [hs : GSym gv p] (hv : opvs F (opsOf op) = some vs) [hu : UnGs p vs us] [hp : POp P op us side v] (h : AnyO P n W0 Q ((d, gd p v) :: F) H H0 L L0 m ops fuel (listed.setIfInBounds i true) k)
    (hside : p → side := by intro hg; first | exact True.intro | omega | assumption | (unfold Go.Sx.fits; omega) | (refine ⟨?_, ?_⟩ <;> (try unfold Go.Sx.fits) <;> omega)) (hok : takeOk ops m listed i = true := by decide +kernel) (hQ : ∀ v c a w, Kx P Q k (.panic c) (a.put (some d) v) w → Kx P Q k (.panic c) a w := by exact fun _ _ _ _ h => h)
    (hl : H0.le H := by first | exact Go.Sx.Heap.le.refl _ | assumption | ((try simp only [Go.Sx.le_self] at *); (repeat (first | exact Go.Sx.Heap.le.refl _ | assumption | refine Go.Sx.Heap.le.trans ?_ ‹Go.Sx.Heap.le _ _›)))) (hsub : Sub L L0 := by (repeat (first | exact Go.Sx.Sub.refl _ | exact Go.Sx.Sub.nil _ | (apply Go.Sx.sub_pick; (repeat (first | exact Go.Sx.Has.here | apply Go.Sx.Has.there)); skip) | apply Go.Sx.Sub.drop))) (hd : Nat.blt d n = true := by rfl) : AnyO P n W0 Q F H H0 L L0 m ops (fuel + 1) listed k :=
  gny_sym i hi hg (fun h => hp.run (hside h) (by rw [hv, hu.h h])) h hok hQ hl hsub hd
theorem gny_sB (i : Nat) {r : Prop} {dr : Decidable r} (hi : ops[i]? = some ⟨some d, op, ty, pos, aft, g⟩) (hg : gval ops F g = some gv) [hs : GSym gv p] (hv : opvs F (opsOf op) = some vs) [hu : UnGs p vs us] [hp : BOp P op us r dr] (h : AnyO P n W0 Q ((d, gd p (.bool (@decide r dr))) :: F) H H0 L L0 m ops fuel (listed.setIfInBounds i true) k)
    (hok : takeOk ops m listed i = true := by decide +kernel) (hQ : ∀ v c a w, Kx P Q k (.panic c) (a.put (some d) v) w → Kx P Q k (.panic c) a w := by exact fun _ _ _ _ h => h)
    (hl : H0.le H := by first | exact Go.Sx.Heap.le.refl _ | assumption | ((try simp only [Go.Sx.le_self] at *); (repeat (first | exact Go.Sx.Heap.le.refl _ | assumption | refine Go.Sx.Heap.le.trans ?_ ‹Go.Sx.Heap.le _ _›)))) (hsub : Sub L L0 := by (repeat (first | exact Go.Sx.Sub.refl _ | exact Go.Sx.Sub.nil _ | (apply Go.Sx.sub_pick; (repeat (first | exact Go.Sx.Has.here | apply Go.Sx.Has.there)); skip) | apply Go.Sx.Sub.drop))) (hd : Nat.blt d n = true := by rfl) : AnyO P n W0 Q F H H0 L L0 m ops (fuel + 1) listed k :=
  gny_sym i hi hg (fun h => hp.run (by rw [hv, hu.h h])) h hok hQ hl hsub hd
theorem gny_sld (i : Nat) {x : Operand} {t : TypeId} {xv : Value} {b off T : Nat} {cs : List Value} {R : List HProp} [TAgg P t false] (hi : ops[i]? = some ⟨some d, .load t x, ty, pos, aft, g⟩) (hg : gval ops F g = some gv) [hs : GSym gv p] (hx : opv F x = some xv) [hu : UnG p xv (.pointer (some ⟨b, off, none⟩))] [hr : HasRow L0 b T cs R] (hc : cs[off]? = some v) (h : AnyO P n W0 Q ((d, gd p v) :: F) H H0 L L0 m ops fuel (listed.setIfInBounds i true) k)
    (hok : takeOk ops m listed i = true := by decide +kernel) (hQ : ∀ v c a w, Kx P Q k (.panic c) (a.put (some d) v) w → Kx P Q k (.panic c) a w := by exact fun _ _ _ _ h => h)
    (hl : H0.le H := by first | exact Go.Sx.Heap.le.refl _ | assumption | ((try simp only [Go.Sx.le_self] at *); (repeat (first | exact Go.Sx.Heap.le.refl _ | assumption | refine Go.Sx.Heap.le.trans ?_ ‹Go.Sx.Heap.le _ _›)))) (hsub : Sub L L0 := by (repeat (first | exact Go.Sx.Sub.refl _ | exact Go.Sx.Sub.nil _ | (apply Go.Sx.sub_pick; (repeat (first | exact Go.Sx.Has.here | apply Go.Sx.Has.there)); skip) | apply Go.Sx.Sub.drop))) (hd : Nat.blt d n = true := by rfl) : AnyO P n W0 Q F H H0 L L0 m ops (fuel + 1) listed k :=
  gny_sym i hi hg (fun hp => op_load (by rw [hx, hu.h hp]) hr.has hc) h hok hQ hl hsub hd
theorem gny_sldH (i : Nat) {x : Operand} {t : TypeId} {xv : Value} {b o : Nat} {cs : List Value} [TAgg P t false] (hi : ops[i]? = some ⟨some d, .load t x, ty, pos, aft, g⟩) (hg : gval ops F g = some gv) [hs : GSym gv p] (hx : opv F x = some xv) [hu : UnG p xv (.pointer (some ⟨b, o, none⟩))] (hr : HRow H0 b 0 cs) (hc : cs[o]? = some v) (h : AnyO P n W0 Q ((d, gd p v) :: F) H H0 L L0 m ops fuel (listed.setIfInBounds i true) k)
    (hok : takeOk ops m listed i = true := by decide +kernel) (hQ : ∀ v c a w, Kx P Q k (.panic c) (a.put (some d) v) w → Kx P Q k (.panic c) a w := by exact fun _ _ _ _ h => h)
    (hl : H0.le H := by first | exact Go.Sx.Heap.le.refl _ | assumption | ((try simp only [Go.Sx.le_self] at *); (repeat (first | exact Go.Sx.Heap.le.refl _ | assumption | refine Go.Sx.Heap.le.trans ?_ ‹Go.Sx.Heap.le _ _›)))) (hsub : Sub L L0 := by (repeat (first | exact Go.Sx.Sub.refl _ | exact Go.Sx.Sub.nil _ | (apply Go.Sx.sub_pick; (repeat (first | exact Go.Sx.Has.here | apply Go.Sx.Has.there)); skip) | apply Go.Sx.Sub.drop))) (hd : Nat.blt d n = true := by rfl) : AnyO P n W0 Q F H H0 L L0 m ops (fuel + 1) listed k :=
  gny_sym i hi hg (fun hp => op_loadH (by rw [hx, hu.h hp]) (hrow_cell hr o (Nat.zero_add _) hc)) h hok hQ hl hsub hd
theorem gny_ldH (i : Nat) {x : Operand} {t : TypeId} {b o : Nat} {cs : List Value} [TAgg P t false] (hi : ops[i]? = some ⟨some d, .load t x, ty, pos, aft, g⟩) (hg : gval ops F g = some gv) [hb : GOk gv true] (hx : opv F x = some (.pointer (some ⟨b, o, none⟩))) (hr : HRow H0 b 0 cs) (hc : cs[o]? = some v) (h : AnyO P n W0 Q ((d, v) :: F) H H0 L L0 m ops fuel (listed.setIfInBounds i true) k)
    (hok : takeOk ops m listed i = true := by decide +kernel) (hQ : ∀ c a w, Kx P Q k (.panic c) (a.put (some d) v) w → Kx P Q k (.panic c) a w := by exact fun _ _ _ h => h)
    (hl : H0.le H := by first | exact Go.Sx.Heap.le.refl _ | assumption | ((try simp only [Go.Sx.le_self] at *); (repeat (first | exact Go.Sx.Heap.le.refl _ | assumption | refine Go.Sx.Heap.le.trans ?_ ‹Go.Sx.Heap.le _ _›)))) (hsub : Sub L L0 := by (repeat (first | exact Go.Sx.Sub.refl _ | exact Go.Sx.Sub.nil _ | (apply Go.Sx.sub_pick; (repeat (first | exact Go.Sx.Has.here | apply Go.Sx.Has.there)); skip) | apply Go.Sx.Sub.drop))) (hd : Nat.blt d n = true := by rfl) : AnyO P n W0 Q F H H0 L L0 m ops (fuel + 1) listed k :=
  gny_pure i hi hg (op_loadH hx (hrow_cell hr o (Nat.zero_add _) hc)) h hok hQ hl hsub hd
theorem gny_ix (i : Nat) {α : Type} {R : Rd α} {val : α → Value} {ok : α → Prop} {t : TypeId} {sb : Nat} {T : TypeId} {x : Operand} {b off : Nat} {cs : List Value} [TAgg P t false] (hi : ops[i]? = some ⟨some d, .load t x, ty, pos, aft, g⟩) (hg : gval ops F g = some gv) [hb : GOk gv true] (hx : opv F x = some (.pointer (some ⟨b, off, none⟩))) {xs : List α} {j : Nat} {hj : j < xs.length} [h1 : R1 R val ok] (hr : HRow H0 b off cs) (hc : R H0 cs (xs[j]'hj)) (h : AnyO P n W0 Q ((d, val (xs[j]'hj)) :: F) H H0 L L0 m ops fuel (listed.setIfInBounds i true) k)
    (hok : takeOk ops m listed i = true := by decide +kernel) (hQ : ∀ v c a w, Kx P Q k (.panic c) (a.put (some d) v) w → Kx P Q k (.panic c) a w := by exact fun _ _ _ _ h => h)
    (hl : H0.le H := by first | exact Go.Sx.Heap.le.refl _ | assumption | ((try simp only [Go.Sx.le_self] at *); (repeat (first | exact Go.Sx.Heap.le.refl _ | assumption | refine Go.Sx.Heap.le.trans ?_ ‹Go.Sx.Heap.le _ _›)))) (hsub : Sub L L0 := by (repeat (first | exact Go.Sx.Sub.refl _ | exact Go.Sx.Sub.nil _ | (apply Go.Sx.sub_pick; (repeat (first | exact Go.Sx.Has.here | apply Go.Sx.Has.there)); skip) | apply Go.Sx.Sub.drop))) (hd : Nat.blt d n = true := by rfl) : AnyO P n W0 Q F H H0 L L0 m ops (fuel + 1) listed k := by
  obtain ⟨rfl, _⟩ := h1.h hc
  exact gny_pure i hi hg (op_loadH hx (hrow_cell hr 0 rfl rfl)) h hok (hQ _) hl hsub hd
theorem gny_pcall (i : Nat) {f : FuncId} {l : List Operand} {ts : Array TypeId} {A R : List HProp} [TFn P f] (hi : ops[i]? = some ⟨some d, .call ⟨.value (.func f), l.toArray, ts⟩, ty, pos, aft, g⟩) (hg : gval ops F g = some gv) [hb : GOk gv true] (ha : opvs F l = some vs) (hs : Ct P f vs.toArray W0 H A (fun r H' B => r = v ∧ B = A ∧ H' = H))
    (hk : AnyO P n W0 Q ((d, v) :: F) H H0 L L0 m ops fuel (listed.setIfInBounds i true) k) (ht : Take L A R := by repeat (first | exact Go.Sx.Take.nil | (apply Go.Sx.Take.cons; focus (repeat (first | exact Go.Sx.Has.here | apply Go.Sx.Has.there)))))
    (hsub : Sub L L0 := by (repeat (first | exact Go.Sx.Sub.refl _ | exact Go.Sx.Sub.nil _ | (apply Go.Sx.sub_pick; (repeat (first | exact Go.Sx.Has.here | apply Go.Sx.Has.there)); skip) | apply Go.Sx.Sub.drop)))
    (hl : H0.le H := by first | exact Go.Sx.Heap.le.refl _ | assumption | ((try simp only [Go.Sx.le_self] at *); (repeat (first | exact Go.Sx.Heap.le.refl _ | assumption | refine Go.Sx.Heap.le.trans ?_ ‹Go.Sx.Heap.le _ _›)))) (hr : Region.ready .any ops listed = [i] := by decide +kernel) (hd : Nat.blt d n = true := by rfl) : AnyO P n W0 Q F H H0 L L0 m ops (fuel + 1) listed k :=
  gny_call i hi hg ha hs (fun r H' B hl ⟨e1, e2, e3⟩ => by subst e1 e2 e3; exact ⟨ht.from.trans hsub, any_L ht.from hk⟩) ht hl hr hd
end
/-- walk straight on, questions in guards left open -/
theorem walkG {p q : Prop} (hq : q) (h : Held q → p := by
    intro hq
    repeat (first
      | refine Go.Sx.ops_p rfl rfl ?_ | refine Go.Sx.ops_ld rfl rfl rfl ?_ | refine Go.Sx.ops_T rfl rfl ?_ | refine Go.Sx.ops_F rfl rfl ?_ | refine Go.Sx.ops_B rfl rfl ?_ | refine Go.Sx.ops_skip rfl ?_
      | refine Go.Sx.ops_gp rfl rfl ?_ | refine Go.Sx.ops_gB rfl rfl ?_ | refine Go.Sx.ops_gld rfl rfl rfl ?_
      | refine Go.Sx.ops_st rfl rfl rfl rfl ?_ | refine Go.Sx.ops_ldN rfl rfl rfl ?_ | refine Go.Sx.ops_ext rfl rfl rfl ?_ | refine Go.Sx.ops_bld rfl rfl ?_ | refine Go.Sx.ops_ldHz rfl rfl ‹Go.Sx.HRow _ _ 0 _› rfl ?_ | refine Go.Sx.ops_ldHNz rfl rfl ‹Go.Sx.HRow _ _ 0 _› rfl ?_ | refine Go.Sx.ops_ldH rfl rfl ‹Go.Sx.HRow _ _ _ _› rfl rfl ?_ | refine Go.Sx.ops_ldH0 rfl rfl ‹Go.Sx.HRow _ _ _ _› rfl ?_ | refine Go.Sx.ops_ix rfl rfl rfl ‹Go.Sx.SlR _ _ _ _ _› (by omega) ?_
      | refine Go.Sx.ops_gldH0 rfl rfl ‹Go.Sx.HRow _ _ 0 _› rfl ?_ | refine Go.Sx.ops_gldN rfl rfl rfl ?_ | refine Go.Sx.ops_gext rfl rfl rfl ?_ | refine Go.Sx.ops_gix rfl rfl rfl ‹Go.Sx.SlR _ _ _ _ _› (by intro hg; omega) ?_
      | refine Go.Sx.ops_nil ?_ | refine Go.Sx.ex_seq ?_ | refine Go.Sx.ex_reg ?_ | refine Go.Sx.out_seq ?_ | refine Go.Sx.ex_c rfl ?_ | refine Go.Sx.ex_sT ?_ | refine Go.Sx.ex_sF ?_ | refine Go.Sx.ex_blk ?_ | refine Go.Sx.out_blk ?_
      | refine Go.Sx.ex_skip ?_ | refine Go.Sx.ex_exit ?_ | refine Go.Sx.ex_ret ?_ | refine Go.Sx.out_eseq ?_ | refine Go.Sx.out_eblk ?_ | refine Go.Sx.out_ecut ?_ | refine Go.Sx.out_epass rfl ?_ | refine Go.Sx.out_rseq ?_ | refine Go.Sx.out_rblk ?_ | refine Go.Sx.out_rcut ?_
      | refine Go.Sx.ex_quiet (by decide +kernel) (fun _ _ _ _ _ h => h) ?_)
    exact hq.out) : p := h ⟨hq⟩
end Go.Sx
