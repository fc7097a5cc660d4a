/- The special steps as rules over carriers: a company begins, lends, receives, is over. No program in sight. -/
import Derived.Test.YtafhinjggdknjaaDoorPE9
import Derived.Conc.AtomicLaws2
import Derived.Conc.MarkLaws
import Derived.Conc.DeferLaws
import Derived.Conc.Token
set_option linter.unusedVariables false
set_option linter.unusedSimpArgs false
namespace Go.Sx
open Go Go.X
noncomputable def gd (p : Prop) (v : Value) : Value := @ite _ p (Classical.propDecidable p) v undef
theorem gd_T {p : Prop} {v : Value} (h : p) : gd p v = v := by unfold gd; rw [if_pos h]
theorem gd_F {p : Prop} {v : Value} (h : ¬ p) : gd p v = undef := by unfold gd; rw [if_neg h]
class GSym (gv : Option (Value × Bool)) (p : outParam Prop) : Prop where
  t : p → GOk gv true
  f : ¬ p → GOk gv false
instance {p : Prop} {dp : Decidable p} : GSym (some (.bool (@decide p dp), true)) p := ⟨fun h => ⟨by simp [h]⟩, fun h => ⟨by simp [h, gno]⟩⟩
instance {p : Prop} {dp : Decidable p} : GSym (some (.bool (@decide p dp), false)) (¬ p) := ⟨fun h => ⟨by simp [h]⟩, fun h => ⟨by have := Classical.not_not.1 h; simp [this, gno]⟩⟩
instance {r p : Prop} {dp : Decidable p} : GSym (some (gd r (.bool (@decide p dp)), true)) (r ∧ p) := ⟨fun h => ⟨by simp [gd_T h.1, h.2]⟩, fun h => ⟨by
  by_cases hr : r
  · have : ¬ p := fun hp => h ⟨hr, hp⟩
    simp [gd_T hr, this, gno]
  · simp [gd_F hr, undef, gno]⟩⟩
instance {r p : Prop} {dp : Decidable p} : GSym (some (gd r (.bool (@decide p dp)), false)) (r ∧ ¬ p) := ⟨fun h => ⟨by simp [gd_T h.1, h.2]⟩, fun h => ⟨by
  by_cases hr : r
  · have : p := Classical.not_not.1 fun hp => h ⟨hr, hp⟩
    simp [gd_T hr, this, gno]
  · simp [gd_F hr, undef, gno]⟩⟩
class UnG (p : Prop) (v : Value) (u : outParam Value) : Prop where
  h : p → v = u
instance (priority := low) {p : Prop} {v : Value} : UnG p v v := ⟨fun _ => rfl⟩
instance {p q : Prop} {v u : Value} [h : UnG p v u] : UnG (p ∧ q) v u := ⟨fun x => h.h x.1⟩
instance (priority := high) {p : Prop} {u : Value} : UnG p (gd p u) u := ⟨fun h => gd_T h⟩
class UnGs (p : Prop) (vs : List Value) (us : outParam (List Value)) : Prop where
  h : p → vs = us
instance {p : Prop} : UnGs p [] [] := ⟨fun _ => rfl⟩
instance {p : Prop} {v u : Value} {vs us : List Value} [h : UnG p v u] [h' : UnGs p vs us] : UnGs p (v :: vs) (u :: us) := ⟨fun x => by rw [h.h x, h'.h x]⟩
section
variable {P : Program} {c x y : Operand} {p q : Prop} {dp : Decidable p} {dq : Decidable q}
instance : POp P (.pick c x y) [.bool (@decide p dp), gd p (.bool (@decide q dq)), .bool false] True (.bool (@decide (p ∧ q) inferInstance)) := ⟨fun {n F H L dst ty pos aft g} _ h => by
  by_cases hp : p
  · exact (op_pickT (v := gd p (.bool (@decide q dq))) (by rw [(opvs3 h).1]; simp [hp]) (opvs3 h).2.1).cast (by rw [gd_T hp]; simp [hp])
  · exact (op_pickF (v := .bool false) (by rw [(opvs3 h).1]; simp [hp]) (opvs3 h).2.2).cast (by simp [hp])⟩
instance : POp P (.pick c x y) [.bool (@decide p dp), .bool true, gd (¬ p) (.bool (@decide q dq))] True (.bool (@decide (p ∨ q) inferInstance)) := ⟨fun {n F H L dst ty pos aft g} _ h => by
  by_cases hp : p
  · exact (op_pickT (v := .bool true) (by rw [(opvs3 h).1]; simp [hp]) (opvs3 h).2.1).cast (by simp [hp])
  · exact (op_pickF (v := gd (¬ p) (.bool (@decide q dq))) (by rw [(opvs3 h).1]; simp [hp]) (opvs3 h).2.2).cast (by rw [gd_T hp]; simp [hp])⟩
end
section
variable {q : Bool} {P : Program} {n : NF} {W0 : GW} {Q : Exit → Act → GW → Prop} {F : Slots} {H : Heap} {L : List HProp} {ops : Array Oper} {rest : List Oper} {k : List Fr} {op : Op} {ty ty' : TypeId} {pos pos' : String} {aft aft' : Array Edge} {d d' : Tmp} {g g' : Option (Nat × Bool)} {v : Value} {vs us : List Value} {gv gv' : Option (Value × Bool)} {p : Prop}
theorem ops_gsym (hg : gval ops F g = some gv) [hs : GSym gv p] (h : p → OpP P n ⟨some d, op, ty, pos, aft, g⟩ F H L v) (hk : Ops P n W0 Q ((d, gd p v) :: F) H L q ops rest k) (hd : Nat.blt d n = true) :
    Ops P n W0 Q F H L q ops (⟨some d, op, ty, pos, aft, g⟩ :: rest) k := by
  by_cases hp : p
  · haveI := hs.t hp
    rw [gd_T hp] at hk
    exact ops_pure hg hd (h hp) hk
  · haveI := hs.f hp
    rw [gd_F hp] at hk
    exact ops_skip hg hk hd
theorem ops_gp {side : Prop} (hg : gval ops F g = some gv) [hs : GSym gv p] (hv : opvs F (opsOf op) = some vs) [hu : UnGs p vs us] [hp : POp P op us side v] (hk : Ops P n W0 Q ((d, gd p v) :: F) H L q ops rest k)
    (hside : p → side := by intro hg; first | exact True.intro | omega | assumption | (unfold Go.Sx.fits; omega) | (refine ⟨?_, ?_⟩ <;> (try unfold Go.Sx.fits) <;> omega)) (hd : Nat.blt d n = true := by rfl) : Ops P n W0 Q F H L q ops (⟨some d, op, ty, pos, aft, g⟩ :: rest) k :=
  ops_gsym hg (fun h => hp.run (hside h) (by rw [hv, hu.h h])) hk hd
theorem ops_gB {r : Prop} {dr : Decidable r} (hg : gval ops F g = some gv) [hs : GSym gv p] (hv : opvs F (opsOf op) = some vs) [hu : UnGs p vs us] [hp : BOp P op us r dr] (hk : Ops P n W0 Q ((d, gd p (.bool (@decide r dr))) :: F) H L q ops rest k)
    (hd : Nat.blt d n = true := by rfl) : Ops P n W0 Q F H L q ops (⟨some d, op, ty, pos, aft, g⟩ :: rest) k :=
  ops_gsym hg (fun h => hp.run (by rw [hv, hu.h h])) hk hd
theorem ops_gld {x : Operand} {t : TypeId} {xv : Value} {b off T : Nat} {cs : List Value} {R : List HProp} [TAgg P t false] (hg : gval ops F g = some gv) [hs : GSym gv p] (hx : opv F x = some xv) [hu : UnG p xv (.pointer (some ⟨b, off, none⟩))] [h : HasRow L b T cs R] (hc : cs[off]? = some v)
    (hk : Ops P n W0 Q ((d, gd p v) :: F) H L q ops rest k) (hd : Nat.blt d n = true := by rfl) : Ops P n W0 Q F H L q ops (⟨some d, .load t x, ty, pos, aft, g⟩ :: rest) k :=
  ops_gsym hg (fun hp => op_load (by rw [hx, hu.h hp]) h.has hc) hk hd
theorem ops_gldN {x : Operand} {t : TypeId} {xv : Value} {b off T m : Nat} {cs ws : List Value} {R : List HProp} [TAgg P t true] [TSz P t m] (hg : gval ops F g = some gv) [hs : GSym gv p] (hx : opv F x = some xv) [hu : UnG p xv (.pointer (some ⟨b, off, none⟩))] [h : HasRow L b T cs R] (hc : pickC cs off m = some ws)
    (hk : Ops P n W0 Q ((d, gd p (.agg ws.toArray)) :: F) H L q ops rest k) (hd : Nat.blt d n = true := by rfl) : Ops P n W0 Q F H L q ops (⟨some d, .load t x, ty, pos, aft, g⟩ :: rest) k :=
  ops_gsym hg (fun hp => op_loadN (by rw [hx, hu.h hp]) h.has (pickC_pick hc)) hk hd
theorem ops_gldH0 {x : Operand} {t : TypeId} {xv : Value} {b o : Nat} {cs : List Value} [TAgg P t false] (hg : gval ops F g = some gv) [hs : GSym gv p] (hx : opv F x = some xv) [hu : UnG p xv (.pointer (some ⟨b, o, none⟩))] (h : HRow H b 0 cs) (hc : cs[o]? = some v)
    (hk : Ops P n W0 Q ((d, gd p v) :: F) H L q ops rest k) (hd : Nat.blt d n = true := by rfl) : Ops P n W0 Q F H L q ops (⟨some d, .load t x, ty, pos, aft, g⟩ :: rest) k :=
  ops_gsym hg (fun hp => op_loadH (by rw [hx, hu.h hp]) (hrow_cell h o (Nat.zero_add _) hc)) hk hd
theorem ops_ldHz {x : Operand} {t : TypeId} {b o : Nat} {cs : List Value} [TAgg P t false] (hg : gval ops F g = some gv) [hb : GOk gv true] (hx : opv F x = some (.pointer (some ⟨b, o, none⟩))) (h : HRow H b 0 cs) (hc : cs[o]? = some v)
    (hk : Ops P n W0 Q ((d, v) :: F) H L q ops rest k) (hd : Nat.blt d n = true := by rfl) : Ops P n W0 Q F H L q ops (⟨some d, .load t x, ty, pos, aft, g⟩ :: rest) k :=
  ops_pure hg hd (op_loadH hx (hrow_cell h o (Nat.zero_add _) hc)) hk
theorem ops_ldHNz {x : Operand} {t : TypeId} {b off m : Nat} {cs ws : List Value} [TAgg P t true] [TSz P t m] (hg : gval ops F g = some gv) [hb : GOk gv true] (hx : opv F x = some (.pointer (some ⟨b, off, none⟩))) (h : HRow H b 0 cs) (hc : pickC cs off m = some ws)
    (hk : Ops P n W0 Q ((d, .agg ws.toArray) :: F) H L q ops rest k) (hd : Nat.blt d n = true := by rfl) : Ops P n W0 Q F H L q ops (⟨some d, .load t x, ty, pos, aft, g⟩ :: rest) k :=
  ops_pure hg hd (op_loadNH hx (fun j v hj => by have := h (off + j) v ((pickC_pick hc).at.1 j v hj); rwa [Nat.zero_add] at this) (pickC_pick hc).at.2) hk
theorem ops_gext {x : Operand} {xv : Value} {ws : Array Value} {i : Nat} (hg : gval ops F g = some gv) [hs : GSym gv p] (hx : opv F x = some xv) [hu : UnG p xv (.tuple ws)] (hi : ws.toList[i]? = some v) (hk : Ops P n W0 Q ((d, gd p v) :: F) H L q ops rest k) (hd : Nat.blt d n = true := by rfl) :
    Ops P n W0 Q F H L q ops (⟨some d, .extract x i, ty, pos, aft, g⟩ :: rest) k := ops_gsym hg (fun hp => op_extract (by rw [hx, hu.h hp]) (by simpa using hi)) hk hd
theorem ops_gix {α : Type} [Inhabited α] {R : Rd α} {val : α → Value} {ok : α → Prop} {T e t : TypeId} {x y : Operand} {xs : List α} {i : Int} {j : Nat} {kd : IntKind} {u w : Value} [h1 : R1 R val ok] [hR : RdOk R 1] [TSl P T e] [TSz P e 1] [TAgg P t false] (hg : gval ops F g = some gv) [hs : GSym gv p]
    (hg' : gval ops F g' = some gv) (hv : opvs F [x, y] = some [u, w]) [hu : UnG p u v] [hw : UnG p w (.int kd i)] [hi : NatOf i j] (hsl : SlR R 1 H v xs) (hj : p → j < xs.length) (hk : Ops P n W0 Q ((d', gd p (val (xs.getD j default))) :: F) H L q ops rest k) (hn : fget F d = none := by rfl) (hd : Nat.blt d n = true := by rfl) (hd' : Nat.blt d' n = true := by rfl) :
    Ops P n W0 Q F H L q ops (⟨some d, .indexAddr T x y, ty, pos, aft, g⟩ :: ⟨some d', .load t (.tmp d), ty', pos', aft', g'⟩ :: rest) k := by
  by_cases hp : p
  · haveI := hs.t hp
    rw [gd_T hp] at hk
    have hj' := hj hp
    have hv' : opvs F [x, y] = some [v, .int kd i] := by rw [hv, hu.h hp, hw.h hp]
    refine ops_ix hg hg' hv' hsl hj' ?_ hn hd hd'
    have : xs.getD j default = xs[j] := by simp [List.getD, List.getElem?_eq_getElem hj']
    rw [this] at hk; exact hk
  · haveI := hs.f hp
    rw [gd_F hp] at hk
    refine ops_skip hg (ops_skip (gval_new hn hg') (ops_fsub (fsub_new hn) hk) hd') hd
theorem Take.from {L A R : List HProp} (h : Take L A R) : Sub (A ++ R) L := by
  induction h with
  | nil => exact Sub.refl _
  | cons h _ ih => exact (Sub.cons ih).trans h.from
theorem ops_pcall {q : Bool} {f : FuncId} {l : List Operand} {ts : Array TypeId} {A R : List HProp} [TFn P f] (hg : gval ops F g = some gv) [hb : GOk gv true] (ha : opvs F l = some vs) (hs : Ct P f vs.toArray W0 H A (fun r H' B => r = v ∧ B = A ∧ H' = H))
    (hk : Ops P n W0 Q ((d, v) :: F) H L q ops rest k) (ht : Take L A R := by repeat (first | exact Go.Sx.Take.nil | (apply Go.Sx.Take.cons; focus (repeat (first | exact Go.Sx.Has.here | apply Go.Sx.Has.there)))))
    (hd : Nat.blt d n = true := by rfl) : Ops P n W0 Q F H L q ops (⟨some d, .call ⟨.value (.func f), l.toArray, ts⟩, ty, pos, aft, g⟩ :: rest) k := by
  cases q with
  | false => exact ops_call hg ha hs (fun r H' B hl ⟨e1, e2, e3⟩ => by subst e1 e2 e3; exact ops_L ht.from hk) ht hd
  | true =>
    have hs' := hs.mono fun r H' B _ h => (⟨h.1, h.2.2, h.2.1⟩ : r = v ∧ H' = H ∧ B = A)
    cases g with
    | none => exact ⟨⟨d, v, rfl, hd, .inl fun a w hF hS => ⟨by simp [Region.wanted], .inl (yv_call (opvs_args ha) hs' ht ht.from hF hS)⟩, hk.run⟩⟩
    | some jw =>
      obtain ⟨j, w⟩ := jw
      obtain ⟨dj, u, hj, hu, hw, _⟩ := gval_spec (b := true) hg
      rw [hw rfl] at hu
      exact ⟨⟨d, v, rfl, hd, .inl fun a w hF hS => ⟨by simp [Region.wanted, hF.yielded hj hu, vb], .inl (yv_call (opvs_args ha) hs' ht ht.from hF hS)⟩, hk.run⟩⟩
theorem ops_gcall {q : Bool} {f : FuncId} {l : List Operand} {ts : Array TypeId} {A R : List HProp} [TFn P f] (hg : gval ops F g = some gv) [hs : GSym gv p] (ha : opvs F l = some vs) [hu : UnGs p vs us] (hc : p → Ct P f us.toArray W0 H A (fun r H' B => r = v ∧ B = A ∧ H' = H))
    (hk : Ops P n W0 Q ((d, gd p v) :: F) H L q ops rest k) (ht : Take L A R := by repeat (first | exact Go.Sx.Take.nil | (apply Go.Sx.Take.cons; focus (repeat (first | exact Go.Sx.Has.here | apply Go.Sx.Has.there)))))
    (hd : Nat.blt d n = true := by rfl) : Ops P n W0 Q F H L q ops (⟨some d, .call ⟨.value (.func f), l.toArray, ts⟩, ty, pos, aft, g⟩ :: rest) k := by
  by_cases hp : p
  · haveI := hs.t hp
    rw [gd_T hp] at hk
    exact ops_pcall hg (by rw [ha, hu.h hp]) (hc hp) hk ht hd
  · haveI := hs.f hp
    rw [gd_F hp] at hk
    exact ops_skip hg hk hd
end
section
variable {P : Program} {n : NF} {W0 : GW} {Q : Exit → Act → GW → Prop} {F : Slots} {H H0 : Heap} {L L0 : List HProp} {m fuel : Nat} {ops : Array Oper} {listed : Array Bool} {k : List Fr} {op : Op} {ty : TypeId} {pos : String} {aft : Array Edge} {d : Tmp} {v : Value} {vs us : List Value} {g : Option (Nat × Bool)} {gv : Option (Value × Bool)} {p : Prop}
end
theorem walkG {p q : Prop} (hq : q) (h : Held q → p := by
    intro hq
    repeat (first
      | refine Go.Sx.ops_p rfl rfl ?_ | refine Go.Sx.ops_ld rfl rfl rfl ?_ | refine Go.Sx.ops_T rfl rfl ?_ | refine Go.Sx.ops_F rfl rfl ?_ | refine Go.Sx.ops_B rfl rfl ?_ | refine Go.Sx.ops_skip rfl ?_
      | refine Go.Sx.ops_gp rfl rfl ?_ | refine Go.Sx.ops_gB rfl rfl ?_ | refine Go.Sx.ops_gld rfl rfl rfl ?_
      | refine Go.Sx.ops_st rfl rfl rfl rfl ?_ | refine Go.Sx.ops_ldN rfl rfl rfl ?_ | refine Go.Sx.ops_ext rfl rfl rfl ?_ | refine Go.Sx.ops_bld rfl rfl ?_ | refine Go.Sx.ops_ldHz rfl rfl ‹Go.Sx.HRow _ _ 0 _› rfl ?_ | refine Go.Sx.ops_ldHNz rfl rfl ‹Go.Sx.HRow _ _ 0 _› rfl ?_ | refine Go.Sx.ops_ldH rfl rfl ‹Go.Sx.HRow _ _ _ _› rfl rfl ?_ | refine Go.Sx.ops_ldH0 rfl rfl ‹Go.Sx.HRow _ _ _ _› rfl ?_ | refine Go.Sx.ops_ix rfl rfl rfl ‹Go.Sx.SlR _ _ _ _ _› (by omega) ?_
      | refine Go.Sx.ops_gldH0 rfl rfl ‹Go.Sx.HRow _ _ 0 _› rfl ?_ | refine Go.Sx.ops_gldN rfl rfl rfl ?_ | refine Go.Sx.ops_gext rfl rfl rfl ?_ | refine Go.Sx.ops_gix rfl rfl rfl ‹Go.Sx.SlR _ _ _ _ _› (by intro hg; omega) ?_
      | refine Go.Sx.ops_nil ?_ | refine Go.Sx.ex_seq ?_ | refine Go.Sx.ex_reg ?_ | refine Go.Sx.out_seq ?_ | refine Go.Sx.ex_c rfl ?_ | refine Go.Sx.ex_sT ?_ | refine Go.Sx.ex_sF ?_ | refine Go.Sx.ex_blk ?_ | refine Go.Sx.out_blk ?_
      | refine Go.Sx.ex_skip ?_ | refine Go.Sx.ex_exit ?_ | refine Go.Sx.ex_ret ?_ | refine Go.Sx.out_eseq ?_ | refine Go.Sx.out_eblk ?_ | refine Go.Sx.out_ecut ?_ | refine Go.Sx.out_epass rfl ?_ | refine Go.Sx.out_rseq ?_ | refine Go.Sx.out_rblk ?_ | refine Go.Sx.out_rcut ?_
      | refine Go.Sx.ex_quietW (by decide +kernel) ?_)
    exact hq.out) : p := h ⟨hq⟩
end Go.Sx
namespace Go.Sx
open Go Go.X
theorem gd_and {p q : Prop} {u : Value} (h : p) : gd (p ∧ q) u = gd q u := by
  by_cases hq : q
  · rw [gd_T hq, gd_T ⟨h, hq⟩]
  · rw [gd_F hq, gd_F fun e => hq e.2]
instance (priority := high) {p q : Prop} {u : Value} : UnG p (gd (p ∧ q) u) (gd q u) := ⟨fun h => gd_and h⟩
instance {P : Program} {x : Operand} {T : TypeId} {p : Prop} {dp : Decidable p} : POp P (.unOp .not T x) [.bool (@decide p dp)] True (.bool (@decide (¬ p) instDecidableNot)) := ⟨fun _ h => (op_not (opvs1 h)).cast (by simp)⟩
section
variable {P : Program} {n : NF} {W0 : GW} {Q : Exit → Act → GW → Prop} {F : Slots} {H H0 : Heap} {L L0 : List HProp} {m fuel : Nat} {ops : Array Oper} {listed : Array Bool} {k : List Fr} {op : Op} {ty ty' : TypeId} {pos pos' : String} {aft aft' : Array Edge} {d d' : Tmp} {v : Value} {vs us : List Value} {g g' : Option (Nat × Bool)} {gv gv' : Option (Value × Bool)} {p : Prop}
end
section
variable {P : Program} {n : NF} {W0 : GW} {Q : Exit → Act → GW → Prop} {F : Slots} {H : Heap} {L R : List HProp} {ops : Array Oper} {rest : List Oper} {k : List Fr} {e : Exit} {c : Code} {b : Nat} {o : Obj}
theorem sat_frz {G : Act → GW → Prop} (hh : Has L (pt b o) R) (h : H b = none → H.le (upd H b o) → Sat n W0 F (upd H b o) R G) : Sat n W0 F H L G := fun a w hF hS => by
  obtain ⟨h0, h1⟩ := (hS.sub hh.to).freeze
  exact h h0 (le_upd h0) a w hF h1
theorem row_hrow {T : TypeId} {cs : List Value} : HRow (upd H b (.cells cs.toArray T (0, 0))) b 0 cs := fun j v hj => by
  simp only [hcell, upd_same]; simpa using hj
theorem out_frzR {T : TypeId} {cs : List Value} (hh : Has L (row b T cs) R) (h : ∀ H', H.le H' → HRow H' b 0 cs → Out P n W0 Q F H' R e k) : Out P n W0 Q F H L e k := ⟨sat_frz hh fun _ hl => (h _ hl row_hrow).run⟩
theorem ops_frzR {T : TypeId} {cs : List Value} (hh : Has L (row b T cs) R) (h : ∀ H', H.le H' → HRow H' b 0 cs → Ops P n W0 Q F H' R false ops rest k) : Ops P n W0 Q F H L false ops rest k := ⟨sat_frz hh fun _ hl => (h _ hl row_hrow).run⟩
theorem ex_frzR {T : TypeId} {cs : List Value} (hh : Has L (row b T cs) R) (h : ∀ H', H.le H' → HRow H' b 0 cs → Ex P n W0 Q F H' R c k) : Ex P n W0 Q F H L c k := ⟨sat_frz hh fun _ hl => (h _ hl row_hrow).run⟩
section
variable {κ ν : Type} {ek : κ → Value} {RV : Rd ν} {ag : Bool} {H0 : Heap} {ms : List (κ × ν)}
theorem sat_frzM {sz : Nat} [RdOk RV sz] {G : Act → GW → Prop} (hh : Has L (mapO ek RV ag H0 b ms) R) (hl0 : H0.le H) (h : ∀ H', H.le H' → mapH ek RV ag H' b ms → Sat n W0 F H' R G) : Sat n W0 F H L G := fun a w hF hS => by
  obtain ⟨hA, hR, ⟨es, ck, pa, e⟩, r, d, dA, dR, lA, lR⟩ := (hS.sub hh.to).parts
  have hS' : StG W0 H w (pt b (.map es ck) :: R) := StG.of_parts hS hS.ro e r d dA dR lA lR
  obtain ⟨h0, h1⟩ := hS'.freeze
  exact h _ (le_upd h0) ⟨es, ck, pa.mono (hl0.trans (le_upd h0)), upd_same _ _ _⟩ a w hF h1
theorem out_frzMap {sz : Nat} [RdOk RV sz] (hh : Has L (mapO ek RV ag H0 b ms) R) (hl0 : H0.le H) (h : ∀ H', H.le H' → mapH ek RV ag H' b ms → Out P n W0 Q F H' R e k) : Out P n W0 Q F H L e k := ⟨sat_frzM hh hl0 fun H' hl hm => (h H' hl hm).run⟩
end
end
section
variable {q : Bool} {κ ν : Type} [DecidableEq κ] {P : Program} {n : NF} {W0 : GW} {Q : Exit → Act → GW → Prop} {F : Slots} {H H0 : Heap} {L R : List HProp} {ops : Array Oper} {rest : List Oper} {k : List Fr} {ty : TypeId} {pos : String} {aft : Array Edge} {d : Tmp} {g : Option (Nat × Bool)} {gv : Option (Value × Bool)} {p : Prop} {b : Nat}
variable {ek : κ → Value} {RV : Rd ν} {ag : Bool} {t kt et : TypeId} {ms : List (κ × ν)} {ky : κ}
class KeyV (ek : outParam (κ → Value)) (v : Value) (ky : outParam κ) : Prop where
  h : v = ek ky
instance {k : IntKind} {x : Int} : KeyV (fun x : Int => Value.int k x) (.int k x) x := ⟨rfl⟩
instance {s : ByteArray} : KeyV Value.string (.string s) s := ⟨rfl⟩
theorem ops_makeMap {κ ν : Type} [DecidableEq κ] (ek : κ → Value) (RV : Rd ν) (ag : Bool) (hg : gval ops F g = some gv) [hb : GOk gv true] (hk : ∀ b, H b = none → Ops P n W0 Q ((d, .map (some b)) :: F) H (mapO ek RV ag H b ([] : List (κ × ν)) :: L) false ops rest k) (hd : Nat.blt d n = true := by rfl) : Ops P n W0 Q F H L false ops (⟨some d, .makeMap t none, ty, pos, aft, g⟩ :: rest) k :=
  ops_w hg hd (op_makeMap hk)
theorem ops_lkH {x y : Operand} {kv : Value} {val : ν → Value} {okp : ν → Prop} {z : ν} [h1 : R1 RV val okp] [hT : TMap P t kt et] [hV : KeyV ek kv ky] [hK : TKey P kt ek] [hZ : TZ P et (val z)] (hg : gval ops F g = some gv) [hb : GOk gv true] (hv : opvs F [x, y] = some [.map (some b), kv]) (hh : mapH ek RV false H b ms)
    (hk : Ops P n W0 Q ((d, val ((mget ky ms).getD z)) :: F) H L q ops rest k) (hd : Nat.blt d n = true := by rfl) : Ops P n W0 Q F H L q ops (⟨some d, .lookup t x y false, ty, pos, aft, g⟩ :: rest) k :=
  ops_pure hg hd (op_lkH (d := z) (opvs2 hv).1 ((opvs2 hv).2.trans (congrArg some hV.h)) hh) hk
theorem ops_glkH {x y : Operand} {mv kw kv : Value} {val : ν → Value} {okp : ν → Prop} {z : ν} [h1 : R1 RV val okp] [hT : TMap P t kt et] (hg : gval ops F g = some gv) [hs : GSym gv p] (hv : opvs F [x, y] = some [mv, kw]) [hu : UnG p mv (.map (some b))] [hu' : UnG p kw kv] [hV : KeyV ek kv ky] [hK : TKey P kt ek] [hZ : TZ P et (val z)] (hh : mapH ek RV false H b ms)
    (hk : Ops P n W0 Q ((d, gd p (val ((mget ky ms).getD z))) :: F) H L q ops rest k) (hd : Nat.blt d n = true := by rfl) : Ops P n W0 Q F H L q ops (⟨some d, .lookup t x y false, ty, pos, aft, g⟩ :: rest) k :=
  ops_gsym hg (fun hp => op_lkH (d := z) ((opvs2 hv).1.trans (by rw [hu.h hp])) ((opvs2 hv).2.trans (by rw [hu'.h hp, hV.h])) hh) hk hd
theorem ops_update {x y z : Operand} {kv v : Value} {u : ν} {cs : List Value} [hT : TMap P t kt et] [hV : KeyV ek kv ky] [hK : TKey P kt ek] (hv : opvs F [x, y, z] = some [.map (some b), kv, v]) (hc : v = ofC ag cs) (hu : RV H0 cs u) (hh : Has L (mapO ek RV ag H0 b ms) R)
    (hk : Ops P n W0 Q F H (mapO ek RV ag H0 b (mset ky u ms) :: R) false ops rest k) : Ops P n W0 Q F H L false ops (⟨none, .mapUpdate t x y z, ty, pos, aft, none⟩ :: rest) k :=
  ops_n (op_update (opvs3 hv).1 ((opvs3 hv).2.1.trans (congrArg some hV.h)) (opvs3 hv).2.2 hc hu hh hk)
end
end Go.Sx
namespace Go.X
open Go Go.Sx Go.Conc Go.ConcN
open Go.ConcR (KK wgBlock WgAt stA smA rd wr mk)
def setS (W : GW) (s : Gh) : GW := { W with s := s }
def Bnd (m : Heap) : Prop := ∃ N, ∀ b, N ≤ b → m b = none
theorem bnd_hp (w : World) : Bnd (hp w) := ⟨w.heap.size, fun b hb => by
  cases h : hp w b with
  | none => rfl
  | some o => exact absurd (hp_lt h) (by omega)⟩
theorem Bnd.le {m m' : Heap} (h : Bnd m) (hl : m'.le m) : Bnd m' := by
  obtain ⟨N, k⟩ := h
  refine ⟨N, fun b hb => ?_⟩
  cases e : m' b with
  | none => rfl
  | some o => have := hl b o e; rw [k b hb] at this; cases this
def heapOf (m : Heap) (N : Nat) (W : World) : World := { W with heap := Array.ofFn (n := N) fun i => (m i.1).getD junkO }
def worldOf (m : Heap) (N : Nat) (W : World) : World := outW (hide m (heapOf m N W)) (heapOf m N W)
theorem hp_worldOf {m : Heap} {N : Nat} {W : World} (h : ∀ b, N ≤ b → m b = none) : hp (worldOf m N W) = m := by
  refine hp_hide fun b o hb => ?_
  have hlt : b < N := Nat.lt_of_not_le fun hle => by rw [h b hle] at hb; cases hb
  simp [rp, heapOf, hlt, hb]
theorem big_two {A B : List HProp} {h1 h2 h : Heap} (a : big A h1) (b : big B h2) (d : Disj h1 h2) (l1 : h1.le h) (l2 : h2.le h) : big (A ++ B) h := by
  induction A generalizing h1 h with
  | nil => exact big_mono l2 b
  | cons X A ih =>
    obtain ⟨x, y, p, r, dd, lx, ly⟩ := a
    refine ⟨x, union y h2, p, ih r (d.mono ly) (le_union_left _ _) (le_union_right (d.mono ly)), (disj_union dd.symm ((d.mono lx).symm)).symm, lx.trans l1, union_le (ly.trans l1) l2⟩
theorem stG_make {Wr : BW} {W0 w : GW} {H : Heap} {L : List HProp} (hS : StG W0 H w L) (hsm : Sm Wr w) {m : Heap} (s : Gh) (hb : Bnd m) {H' : Heap} {L' : List HProp} (ro : H'.le (union m (fz (pool s))))
    (own : ∃ x, big L' x ∧ x.le m ∧ Disj H' x) (dj : Disj m (pool s)) : ∃ w' : GW, Rep Wr w' ⟨m, s⟩ ∧ StG (setS W0 s) H' w' L' := by
  obtain ⟨N, hN⟩ := hb
  have e := hp_worldOf (W := Wr.toWorld) hN
  refine ⟨⟨⟨worldOf m N Wr.toWorld, Wr.post⟩, s⟩, ⟨e, rfl, ⟨rfl, rfl, rfl⟩⟩, ⟨⟨?_, ?_, rfl, low_hide⟩, ?_, ?_, rfl, ?_, ?_⟩⟩
  · exact hsm.os.trans hS.env.os
  · exact hsm.tape.trans hS.env.tape
  · show H'.le (union (hp (worldOf m N Wr.toWorld)) (fz (pool s))); rw [e]; exact ro
  · show ∃ x, big L' x ∧ x.le (hp (worldOf m N Wr.toWorld)) ∧ Disj H' x; rw [e]; exact own
  · exact hsm.post.trans hS.ps
  · show Disj (hp (worldOf m N Wr.toWorld)) (pool s); rw [e]; exact dj
def OpG (P : Program) (n : NF) (W0 : GW) (o : Oper) (F : Slots) (H : Heap) (L : List HProp) (K : Value → GW → Heap → List HProp → Prop) : Prop :=
  ∀ a w (next : Act → GW → Prop) (Q : Exit → Act → GW → Prop), FrOk n a F → StG W0 H w L →
    (∀ v W1 H' L' w', K v W1 H' L' → StG W1 H' w' L' → next (a.put o.dst v) w') → o.wpV P a w next Q
theorem listed_nil {P : Program} {fn : FuncId} {a : Act} {o : Oper} {w : World} (he : (execOp a.eval o).events P w #[] = #[]) : listed P fn a o w = #[] := by unfold listed; rw [he, seen_none]
class TCh (P : Program) (t : TypeId) (e : outParam TypeId) : Prop where
  und : ∃ d, P.underlying t = some (.chan d e)
section
variable {q : Bool} {P : Program} {n : NF} {W0 : GW} {Q : Exit → Act → GW → Prop} {F : Slots} {H : Heap} {L : List HProp} {ops : Array Oper} {rest : List Oper} {k : List Fr} {op : Op} {ty : TypeId} {pos : String} {aft : Array Edge} {d : Tmp} {dst : Option Tmp} {g : Option (Nat × Bool)} {K : Value → GW → Heap → List HProp → Prop}
theorem ops_g (h : OpG P n W0 ⟨some d, op, ty, pos, aft, none⟩ F H L (fun v W1 H' L' => Ops P n W1 Q ((d, v) :: F) H' L' false ops rest k)) (hd : Nat.blt d n = true := by rfl) :
    Ops P n W0 Q F H L false ops (⟨some d, op, ty, pos, aft, none⟩ :: rest) k := ⟨by
  intro a w hF hS
  unfold wpListV
  rw [if_pos (by simp [Region.wanted])]
  exact h a w _ _ hF hS fun v W1 H' L' w' hk hs => hk.run _ _ (hF.put hd v) hs⟩
theorem ops_g0 (h : OpG P n W0 ⟨none, op, ty, pos, aft, none⟩ F H L (fun v W1 H' L' => Ops P n W1 Q F H' L' false ops rest k)) :
    Ops P n W0 Q F H L false ops (⟨none, op, ty, pos, aft, none⟩ :: rest) k := ⟨by
  intro a w hF hS
  unfold wpListV
  rw [if_pos (by simp [Region.wanted])]
  exact h a w _ _ hF hS fun v W1 H' L' w' hk hs => hk.run _ _ (hF.put0 v) hs⟩
theorem Bnd.union {a b : Heap} (h : Bnd a) (h' : Bnd b) : Bnd (Sx.union a b) := by
  obtain ⟨N, k⟩ := h
  obtain ⟨M, k'⟩ := h'
  refine ⟨max N M, fun x hx => ?_⟩
  have h1 := k x (by omega)
  have h2 := k' x (by omega)
  simp [Sx.union, h1, h2]
theorem disj_ro {W0 w : GW} (hS : StG W0 H w L) {D : Heap} (h1 : Disj (hp w.toWorld) D) (h2 : Disj D (pool W0.s)) : Disj H D := fun b => by
  cases hb : H b with
  | none => exact .inl rfl
  | some o =>
    right
    rcases union_cases (hS.ro b o hb) with h | ⟨_, h⟩
    · exact (h1 b).resolve_left (by rw [h]; simp)
    · exact (h2 b).resolve_right (fz_ne (by rw [h]; simp))
theorem opG_deal {c : Co} {live : Bool} {z1 z2 : Value} {e1 e2 : TypeId} {x1 x2 x3 : Operand} [h1 : TZ P e1 z1] [h2 : TZ P e2 z2] (hs : W0.s = .co c) (hst : c.st = .run) (hsh : c.shut = false) (hlive : live = true ↔ c.nx < c.cy.lim) (hope : if live then c.wk ≠ [] else ∃ (k j : Nat), c.wk[k]? = some (some j))
    (hx1 : opv F x1 = some (.chan (if live then some c.cy.dl else none))) (hx2 : opv F x2 = some (.int .i64 c.nx)) (hx3 : opv F x3 = some (.chan (some c.cy.dn))) (hok : ∀ j v D, c.cy.ok j v D → Bnd D)
    (k0 : ∀ k : Nat, live = true → c.wk[k]? = some none → K (.tuple #[.int .i64 0, .bool false, z2]) (setS W0 (.co { c with nx := c.nx + 1, wk := c.wk.set k (some c.nx) })) H L)
    (k1 : ∀ (k j : Nat) (v : Value) (D : Heap), c.wk[k]? = some (some j) → c.cy.ok j v D → ∃ LD, big LD D ∧ K (.tuple #[.int .i64 1, .bool true, v]) (setS W0 (.co { c with wk := c.wk.set k none })) H (LD ++ L)) :
    OpG P n W0 ⟨dst, .select #[⟨x1, some x2, e1⟩, ⟨x3, none, e2⟩] true, ty, pos, aft, g⟩ F H L K := by
  intro a w next Q hF hS hn Wr hsm ops j rest b kk cs ho hw hb hc
  have hws : w.s = .co c := hS.sh.trans hs
  have hdj := hS.dj
  rw [hs] at hdj
  have hro := hS.ro
  rw [hs] at hro
  have hrun : ∀ w1, (execOp a.eval ⟨dst, .select #[⟨x1, some x2, e1⟩, ⟨x3, none, e2⟩] true, ty, pos, aft, g⟩).run P w1 = .ok (.comm (deals live c.cy (.int .i64 c.nx) z1 z2) true .select) w1 := fun w1 => by
    simp only [execOp]
    cases live
    · simp only [Bool.false_eq_true, if_false] at hx1
      simp [hF.opv hx1, hF.opv hx2, hF.opv hx3, h1.run, h2.run, deals, scaseNil, rcase]
    · simp only [if_true] at hx1
      simp [hF.opv hx1, hF.opv hx2, hF.opv hx3, h1.run, h2.run, deals, scase, rcase]
  have hev : ∀ w1, (execOp a.eval ⟨dst, .select #[⟨x1, some x2, e1⟩, ⟨x3, none, e2⟩] true, ty, pos, aft, g⟩).events P w1 #[] = #[] := fun w1 => by
    simp only [execOp]
    simp [h1.run, h2.run]
  have srv : ∀ v, Go.Conc.served (G (b.at a (.inRegion ops (j :: rest) :: kk)) cs) v = G (b.at (a.put dst v) (.inRegion ops rest :: kk)) cs := fun v => by rw [served_G, ho]; rfl
  refine MI.special (sb_mono P Wr) ?_
  unfold xw
  rw [hws]
  refine SP.deal (live := live) (z1 := z1) (z2 := z2) hst hsh hlive hope rfl (fun w1 he hl => by rw [stepG_comm ho hw hb (hrun w1), listed_nil (hev w1)]) (fun k hl hk => ?_) fun k jj v D hk hD d1 d2 => ?_
  · obtain ⟨w', q1, q2⟩ := stG_make hS hsm (m := hp w.toWorld) (.co { c with nx := c.nx + 1, wk := c.wk.set k (some c.nx) }) (bnd_hp _) hro hS.own hdj
    have e : (G (b.at a (.inRegion ops (j :: rest) :: kk)) cs).finishComm P (deals live c.cy (.int .i64 c.nx) z1 z2) .select 0 undef false = G (b.at (a.put dst (.tuple #[.int .i64 0, .bool false, z2])) (.inRegion ops rest :: kk)) cs := by
      rw [← srv, finishComm_served]
      exact congrArg _ (by subst hl; simp [commResult, deals, scase, rcase, goInt])
    rw [e]
    exact hc _ _ ⟨w', q1, hn _ _ _ _ _ (k0 k hl hk) q2⟩
  · obtain ⟨LD, b1, b2⟩ := k1 k jj v D hk hD
    obtain ⟨y, y1, y2, y3⟩ := hS.own
    have hHD : Disj H D := disj_ro hS d1 (by rw [hs]; exact d2)
    have hDy : Disj D y := (d1.mono y2).symm
    obtain ⟨w', q1, q2⟩ := stG_make hS hsm (m := Sx.union (hp w.toWorld) D) (.co { c with wk := c.wk.set k none }) ((bnd_hp _).union (hok _ _ _ hD)) (H' := H) (L' := LD ++ L)
      (fun bb o hbb => by
        rcases union_cases (hro bb o hbb) with h | ⟨h, h'⟩
        · exact union_l (union_l h)
        · have hn0 : D bb = none := (hHD bb).resolve_left (by rw [hbb]; simp)
          rw [union_r (by simp [Sx.union, h, hn0])]
          exact h')
      ⟨Sx.union D y, big_two b1 y1 hDy (le_union_left _ _) (le_union_right hDy), union_le (le_union_right d1) (y2.trans (le_union_left _ _)), (disj_union hHD.symm y3.symm).symm⟩
      (disj_union hdj d2)
    have e : (G (b.at a (.inRegion ops (j :: rest) :: kk)) cs).finishComm P (deals live c.cy (.int .i64 c.nx) z1 z2) .select 1 v true = G (b.at (a.put dst (.tuple #[.int .i64 1, .bool true, v])) (.inRegion ops rest :: kk)) cs := by
      rw [← srv, finishComm_served]
      exact congrArg _ (by cases live <;> simp [commResult, deals, scase, scaseNil, rcase, goInt])
    rw [e]
    exact hc _ _ ⟨w', q1, hn _ _ _ _ _ b2 q2⟩
theorem opG_ask {c : Cs} {z : Value} {t e : TypeId} {x : Operand} [ht : TCh P t e] [hz : TZ P e z] (hs : W0.s = .snd c) (hjob : c.job = none) (hoff : c.off = false) (hx : opv F x = some (.chan (some c.cy.dl)))
    (h1 : ∀ j : Nat, c.lo ≤ j → j < c.cy.lim → K (.tuple #[.int .i64 j, .bool true]) (setS W0 (.snd { c with job := some j, lo := j + 1 })) H L) (h0 : K (.tuple #[z, .bool false]) (setS W0 (.snd { c with off := true })) H L) :
    OpG P n W0 ⟨dst, .recv t x true, ty, pos, aft, g⟩ F H L K := by
  intro a w next Q hF hS hn Wr hsm ops j rest b kk cs ho hw hb hc
  have hws : w.s = .snd c := hS.sh.trans hs
  have hdj := hS.dj
  rw [hs] at hdj
  have hro := hS.ro
  rw [hs] at hro
  obtain ⟨d, hu⟩ := ht.und
  have hrun : ∀ w1, (execOp a.eval ⟨dst, .recv t x true, ty, pos, aft, g⟩).run P w1 = .ok (.comm #[rcase c.cy.dl z] true (.recv true)) w1 := fun w1 => by
    simp only [execOp, hF.opv hx]; simp [run_underlying hu, hz.run, rcase]
  have hev : ∀ w1, (execOp a.eval ⟨dst, .recv t x true, ty, pos, aft, g⟩).events P w1 #[] = #[] := fun w1 => by
    simp only [execOp, hF.opv hx]; simp [run_underlying hu]
  have srv : ∀ v, Go.Conc.served (G (b.at a (.inRegion ops (j :: rest) :: kk)) cs) v = G (b.at (a.put dst v) (.inRegion ops rest :: kk)) cs := fun v => by rw [served_G, ho]; rfl
  refine MI.special (sb_mono P Wr) ?_
  unfold xw
  rw [hws]
  refine SP.ask (z := z) hjob hoff rfl (fun w1 he hl => by rw [stepG_comm ho hw hb (hrun w1), listed_nil (hev w1)]) (fun jj hlo hj => ?_) ?_
  · rw [srv]
    obtain ⟨w', r1, r2⟩ := stG_make hS hsm (m := hp w.toWorld) (.snd { c with job := some jj, lo := jj + 1 }) (bnd_hp _) hro hS.own hdj
    exact hc _ _ ⟨w', r1, hn _ _ _ _ _ (h1 jj hlo hj) r2⟩
  · rw [srv]
    obtain ⟨w', r1, r2⟩ := stG_make hS hsm (m := hp w.toWorld) (.snd { c with off := true }) (bnd_hp _) hro hS.own hdj
    exact hc _ _ ⟨w', r1, hn _ _ _ _ _ h0 r2⟩
theorem opG_give {c : Cs} {jj : Nat} {v : Value} {x y : Operand} {LD L' : List HProp} (hs : W0.s = .snd c) (hjob : c.job = some jj) (hoff : c.off = false) (hx : opv F x = some (.chan (some c.cy.dn))) (hy : opv F y = some v)
    (hT : Take L LD L') (hok : ∀ D, big LD D → Bnd D → Disj H D → Disj D c.cy.base → c.cy.ok jj v D) (hk : K undef (setS W0 (.snd { c with job := none })) H L') :
    OpG P n W0 ⟨dst, .send x y, ty, pos, aft, g⟩ F H L K := by
  intro a w next Q hF hS hn Wr hsm ops j rest b kk cs ho hw hb hc
  have hws : w.s = .snd c := hS.sh.trans hs
  have hdj := hS.dj
  rw [hs] at hdj
  have hro := hS.ro
  rw [hs] at hro
  have hrun : ∀ w1, (execOp a.eval ⟨dst, .send x y, ty, pos, aft, g⟩).run P w1 = .ok (.comm #[scase c.cy.dn v (.tuple #[])] true .send) w1 := fun w1 => by
    simp [execOp, hF.opv hx, hF.opv hy, scase]
  have hev : ∀ w1, (execOp a.eval ⟨dst, .send x y, ty, pos, aft, g⟩).events P w1 #[] = #[] := fun w1 => by
    simp [execOp]
  have srv : ∀ v, Go.Conc.served (G (b.at a (.inRegion ops (j :: rest) :: kk)) cs) v = G (b.at (a.put dst v) (.inRegion ops rest :: kk)) cs := fun v => by rw [served_G, ho]; rfl
  obtain ⟨y0, y1, y2, y3⟩ := hS.own
  obtain ⟨hD, hL, e3, r3, d3, l3, l3r⟩ := big_app (hT.to _ y1)
  have hDm : hD.le (hp w.toWorld) := l3.trans y2
  have hHD : Disj H hD := (y3.symm.mono l3).symm
  have hHL : Disj H hL := (y3.symm.mono l3r).symm
  have hDb : Disj hD c.cy.base := hdj.mono hDm
  obtain ⟨m', hm'⟩ : ∃ m' : Heap, m' = fun b => match hD b with | some _ => none | none => hp w.toWorld b := ⟨_, rfl⟩
  have m1 : ∀ b, hD b = none → m' b = hp w.toWorld b := fun b h => by rw [hm']; simp only [h]
  have m2 : ∀ b, hD b ≠ none → m' b = none := fun b h => by
    cases e : hD b with
    | none => exact absurd e h
    | some o => rw [hm']; simp only [e]
  have hmle : m'.le (hp w.toWorld) := fun b o h => by
    by_cases e : hD b = none
    · rw [m1 b e] at h; exact h
    · rw [m2 b e] at h; cases h
  have hmD : Disj m' hD := fun b => by
    by_cases e : hD b = none
    · exact .inr e
    · exact .inl (m2 b e)
  obtain ⟨w', q1, q2⟩ := stG_make hS hsm (m := m') (.snd { c with job := none }) ((bnd_hp _).le hmle) (H' := H) (L' := L')
    (fun bb o hbb => by
      have hn0 : hD bb = none := (hHD bb).resolve_left (by rw [hbb]; simp)
      rcases union_cases (hro bb o hbb) with h | ⟨h, h'⟩
      · exact union_l (by rw [m1 bb hn0]; exact h)
      · rw [union_r (by rw [m1 bb hn0]; exact h)]
        exact h')
    ⟨hL, r3, fun b o h => by
      have hn0 : hD b = none := (d3 b).resolve_right (by rw [h]; simp)
      rw [m1 b hn0]; exact y2 _ _ (l3r _ _ h), hHL⟩
    (hdj.mono hmle)
  refine MI.special (sb_mono P Wr) ?_
  unfold xw
  rw [hws]
  refine SP.give (j := jj) (v := v) (z := .tuple #[]) (m' := m') (D := hD) hjob hoff rfl (fun w1 he hl => by rw [stepG_comm ho hw hb (hrun w1), listed_nil (hev w1)]) hmle hDm hmD (hok hD e3 ((bnd_hp _).le hDm) hHD hDb) ?_
  have e : (G (b.at a (.inRegion ops (j :: rest) :: kk)) cs).finishComm P #[scase c.cy.dn v (.tuple #[])] .send 0 undef false = G (b.at (a.put dst undef) (.inRegion ops rest :: kk)) cs := by
    rw [← srv, finishComm_served]
    exact congrArg _ (by simp [commResult])
  rw [e]
  exact hc _ _ ⟨w', q1, hn _ _ _ _ _ hk q2⟩
end
end Go.X
