/- Drawn regions, whatever order comes: the rules, over carriers (printed by wip/y/mkany.py from wip/e). No program in sight. -/
import Derived.Test.YtafhinjggdknjaaDoorPAO
import Derived.Test.YtafhinjggdknjaaDoorPZA
set_option linter.unusedVariables false
set_option linter.unusedSimpArgs false
namespace Go.Sx
open Go Go.X
section
variable (P : Program) (n : NF) (W0 : GW) (Q : Exit → Act → GW → Prop) (F : Slots) (H H0 : Heap) (L L0 : List HProp)
structure AnyO (m : Nat) (ops : Array Oper) (fuel : Nat) (listed : Array Bool) (k : List Fr) : Prop where
  run : Sat n W0 F H L (Any P W0 H0 L0 m ops (Kx P Q k) fuel listed)
end
section
variable {P : Program} {n : NF} {W0 : GW} {Q : Exit → Act → GW → Prop} {F : Slots} {H H0 : Heap} {L L0 : List HProp} {m fuel : Nat} {ops : Array Oper} {listed : Array Bool} {k : List Fr} {op : Op} {ty : TypeId} {pos : String} {aft : Array Edge} {d : Tmp} {v : Value} {vs : List Value}
theorem ex_any [hm : TMix P] {id : Nat} {l : List Oper} (m : Nat) (L0 : List HProp) (h : AnyO P n W0 Q F H H L L0 m l.toArray l.length (Array.replicate l.length false) k) : Ex P n W0 Q F H L (.region id l.toArray true) k := ⟨any_start m L0 h.run⟩
theorem any_w (i : Nat) (hi : ops[i]? = some ⟨some d, op, ty, pos, aft, none⟩) (h : OpW P n W0 ⟨some d, op, ty, pos, aft, none⟩ F H L (fun v H' L' => H0.le H' ∧ Sub L' L0 ∧ AnyO P n W0 Q ((d, v) :: F) H' H0 L' L0 m ops fuel (listed.setIfInBounds i true) k))
    (hr : Region.ready .any ops listed = [i] := by decide +kernel) (hd : Nat.blt d n = true := by rfl) : AnyO P n W0 Q F H H0 L L0 m ops (fuel + 1) listed k :=
  ⟨any_one hr (at_some hi hd (h.mono fun v H' L' _ ⟨a, b, c⟩ => ⟨a, b, c.run⟩))⟩
theorem any_call (i : Nat) {f : FuncId} {l : List Operand} {ts : Array TypeId} {A R : List HProp} {Post : Value → Heap → List HProp → Prop} [TFn P f] (hi : ops[i]? = some ⟨some d, .call ⟨.value (.func f), l.toArray, ts⟩, ty, pos, aft, none⟩) (ha : opvs F l = some vs) (hs : Ct P f vs.toArray W0 H A Post)
    (hk : ∀ r H' B, H.le H' → Post r H' B → Sub (B ++ R) L0 ∧ AnyO P n W0 Q ((d, r) :: F) H' H0 (B ++ R) L0 m ops fuel (listed.setIfInBounds i true) k) (ht : Take L A R := by repeat (first | exact Go.Sx.Take.nil | (apply Go.Sx.Take.cons; focus (repeat (first | exact Go.Sx.Has.here | apply Go.Sx.Has.there)))))
    (hl : H0.le H := by first | exact Go.Sx.Heap.le.refl _ | assumption | ((try simp only [Go.Sx.le_self] at *); (repeat (first | exact Go.Sx.Heap.le.refl _ | assumption | refine Go.Sx.Heap.le.trans ?_ ‹Go.Sx.Heap.le _ _›)))) (hr : Region.ready .any ops listed = [i] := by decide +kernel) (hd : Nat.blt d n = true := by rfl) : AnyO P n W0 Q F H H0 L L0 m ops (fuel + 1) listed k :=
  any_w i hi (op_call (opvs_args ha) hs ht fun r H' B h1 h2 => ⟨hl.trans h1, (hk r H' B h1 h2).1, (hk r H' B h1 h2).2⟩) hr hd
theorem any_rest {l rest : List Oper} (hrest : restC l m = some rest) (h : Ops P n W0 Q F H L false l.toArray rest k) (hfuel : fuel = rest.length := by rfl) (hok : tailOk l.toArray m listed = true := by decide +kernel) : AnyO P n W0 Q F H H0 L L0 m l.toArray fuel listed k :=
  ⟨any_tail hok (restC_eq hrest) hfuel h.run⟩
theorem any_L {L' : List HProp} (hs : Sub L L') (h : AnyO P n W0 Q F H H0 L' L0 m ops fuel listed k) : AnyO P n W0 Q F H H0 L L0 m ops fuel listed k := ⟨sat_sub h.run hs⟩
theorem any_shape {α : Type} {R : Rd α} {sz w T : Nat} {H1 : Heap} {xs : List α} {L' : List HProp} (s : Value) [hh : HasS L s α R sz w T H1 xs L'] (h : ∀ base cap, s = .slice base xs.length cap → xs.length ≤ cap → cap ≤ 9223372036854775807 → xs.length * w ≤ cap47 → AnyO P n W0 Q F H H0 L L0 m ops fuel listed k) : AnyO P n W0 Q F H H0 L L0 m ops fuel listed k :=
  ⟨sat_know hh.has (fun _ ho => And.intro (ownS_shape ho) (ownS_small ho)) fun ⟨⟨b, c, e, h1, h2⟩, h3⟩ => (h b c e h1 h2 h3).run⟩
section
variable {K : Value → Heap → List HProp → Prop} {dst : Option Tmp} {g : Option (Nat × Bool)} {o : Oper}
variable {α : Type} {R : Rd α} {sz wd T : Nat} {H1 : Heap} {xs ys : List α} {y : α} {L' : List HProp} {sv xv z : Value} {us : List Value} {t : TypeId} {s x : Operand}
end
theorem any_w2 (i j : Nat) {d' : Tmp} {op' : Op} {ty' : TypeId} {pos' : String} {aft' : Array Edge} (hi : ops[i]? = some ⟨some d, op, ty, pos, aft, none⟩) (hj : ops[j]? = some ⟨some d', op', ty', pos', aft', none⟩)
    (h : OpW P n W0 ⟨some d, op, ty, pos, aft, none⟩ F H L (fun v H' L' => H0.le H' ∧ Sub L' L0 ∧ AnyO P n W0 Q ((d, v) :: F) H' H0 L' L0 m ops fuel (listed.setIfInBounds i true) k))
    (h' : OpW P n W0 ⟨some d', op', ty', pos', aft', none⟩ F H L (fun v H' L' => H0.le H' ∧ Sub L' L0 ∧ AnyO P n W0 Q ((d', v) :: F) H' H0 L' L0 m ops fuel (listed.setIfInBounds j true) k))
    (hr : Region.ready .any ops listed = [i, j] := by decide +kernel) (hd : Nat.blt d n = true := by rfl) (hd' : Nat.blt d' n = true := by rfl) : AnyO P n W0 Q F H H0 L L0 m ops (fuel + 1) listed k :=
  ⟨any_two hr (at_some hi hd (h.mono fun v H' L' _ ⟨a, b, c⟩ => ⟨a, b, c.run⟩)) (at_some hj hd' (h'.mono fun v H' L' _ ⟨a, b, c⟩ => ⟨a, b, c.run⟩))⟩
end
end Go.Sx
namespace Go.Sx
open Go Go.X
section
variable {α : Type} {R : Rd α} {sz : Nat} {H : Heap}
end
section
variable {P : Program} {n : NF} {W0 : GW} {Q : Exit → Act → GW → Prop} {F : Slots} {H H0 : Heap} {L L0 : List HProp} {m fuel : Nat} {ops : Array Oper} {listed : Array Bool} {k : List Fr} {op : Op} {ty ty' : TypeId} {pos pos' : String} {aft aft' : Array Edge} {d : Tmp} {v : Value} {vs : List Value} {rest : List Oper} {g : Option (Nat × Bool)} {gv : Option (Value × Bool)}
end
end Go.Sx
namespace Go.Sx
open Go Go.X
section
variable {P : Program} {x y : Operand} {T T' : TypeId} [TBo P T]
end
section
variable {P : Program} {n : NF} {W0 : GW} {Q : Exit → Act → GW → Prop} {F : Slots} {H H0 : Heap} {L L0 : List HProp} {m fuel : Nat} {ops : Array Oper} {listed : Array Bool} {k : List Fr} {op : Op} {ty : TypeId} {pos : String} {aft : Array Edge} {d : Tmp} {v : Value} {vs : List Value}
theorem gny_pure (i : Nat) {g : Option (Nat × Bool)} {gv : Option (Value × Bool)} (hi : ops[i]? = some ⟨some d, op, ty, pos, aft, g⟩) (hg : gval ops F g = some gv) [hb : GOk gv true] (hv : OpP P n ⟨some d, op, ty, pos, aft, g⟩ F H0 L0 v) (h : AnyO P n W0 Q ((d, v) :: F) H H0 L L0 m ops fuel (listed.setIfInBounds i true) k)
    (hok : takeOk ops m listed i = true) (hl : H0.le H) (hsub : Sub L L0) (hd : Nat.blt d n = true) : AnyO P n W0 Q F H H0 L L0 m ops (fuel + 1) listed k := ⟨fun a w hF hS => by
  simp only [takeOk, Bool.and_eq_true, Nat.blt_eq] at hok
  obtain ⟨⟨⟨⟨⟨h1, h2⟩, h3⟩, h4⟩, h5⟩, h6⟩ := hok
  exact wpP_first hi h5 (Region.noSelect_spec h1) fuel listed a w h4 h6 (Region.free_spec hi h2) (by simpa using h3) (.inl ⟨wanted_T hg hF, fun w' hw' => hv.toS hF hw'⟩) ((hS.weak hl).sub hsub) (h.run _ w (hF.put hd v) hS)⟩
theorem gny_skip (i : Nat) {g : Option (Nat × Bool)} {gv : Option (Value × Bool)} (hi : ops[i]? = some ⟨some d, op, ty, pos, aft, g⟩) (hg : gval ops F g = some gv) [hb : GOk gv false] (h : AnyO P n W0 Q ((d, undef) :: F) H H0 L L0 m ops fuel (listed.setIfInBounds i true) k) (hok : takeOk ops m listed i = true := by decide +kernel)
    (hl : H0.le H := by first | exact Go.Sx.Heap.le.refl _ | assumption | ((try simp only [Go.Sx.le_self] at *); (repeat (first | exact Go.Sx.Heap.le.refl _ | assumption | refine Go.Sx.Heap.le.trans ?_ ‹Go.Sx.Heap.le _ _›)))) (hsub : Sub L L0 := by (repeat (first | exact Go.Sx.Sub.refl _ | exact Go.Sx.Sub.nil _ | (apply Go.Sx.sub_pick; (repeat (first | exact Go.Sx.Has.here | apply Go.Sx.Has.there)); skip) | apply Go.Sx.Sub.drop))) (hd : Nat.blt d n = true := by rfl) : AnyO P n W0 Q F H H0 L L0 m ops (fuel + 1) listed k := ⟨fun a w hF hS => by
  simp only [takeOk, Bool.and_eq_true, Nat.blt_eq] at hok
  obtain ⟨⟨⟨⟨⟨h1, h2⟩, h3⟩, h4⟩, h5⟩, h6⟩ := hok
  exact wpP_first hi h5 (Region.noSelect_spec h1) fuel listed a w h4 h6 (Region.free_spec hi h2) (by simpa using h3) (.inr ⟨wanted_F hg hF, rfl⟩) ((hS.weak hl).sub hsub) (h.run _ w (hF.put hd undef) hS)⟩
theorem gny_ld (i : Nat) {g : Option (Nat × Bool)} {gv : Option (Value × Bool)} {x : Operand} {t : TypeId} {b off T : Nat} {cs : List Value} {R : List HProp} [TAgg P t false] (hi : ops[i]? = some ⟨some d, .load t x, ty, pos, aft, g⟩) (hg : gval ops F g = some gv) [hb : GOk gv true] (hx : opv F x = some (.pointer (some ⟨b, off, none⟩))) [hr : HasRow L0 b T cs R] (hc : cs[off]? = some v) (h : AnyO P n W0 Q ((d, v) :: F) H H0 L L0 m ops fuel (listed.setIfInBounds i true) k) (hok : takeOk ops m listed i = true := by decide +kernel)
    (hl : H0.le H := by first | exact Go.Sx.Heap.le.refl _ | assumption | ((try simp only [Go.Sx.le_self] at *); (repeat (first | exact Go.Sx.Heap.le.refl _ | assumption | refine Go.Sx.Heap.le.trans ?_ ‹Go.Sx.Heap.le _ _›)))) (hsub : Sub L L0 := by (repeat (first | exact Go.Sx.Sub.refl _ | exact Go.Sx.Sub.nil _ | (apply Go.Sx.sub_pick; (repeat (first | exact Go.Sx.Has.here | apply Go.Sx.Has.there)); skip) | apply Go.Sx.Sub.drop))) (hd : Nat.blt d n = true := by rfl) : AnyO P n W0 Q F H H0 L L0 m ops (fuel + 1) listed k := gny_pure i hi hg (op_load hx hr.has hc) h hok hl hsub hd
theorem gny_ixp (i : Nat) {g : Option (Nat × Bool)} {gv : Option (Value × Bool)} {α : Type} {R : Rd α} {sz T : Nat} {t : TypeId} {x y : Operand} {xs : List α} {ii : Int} {j : Nat} {kd : IntKind} [hR : RdOk R sz] [TSl P t T] [TSz P T sz] (hi : ops[i]? = some ⟨some d, .indexAddr t x y, ty, pos, aft, g⟩) (hg : gval ops F g = some gv) [hb : GOk gv true] (hv : opvs F [x, y] = some [v, .int kd ii]) [hin : NatOf ii j]
    (hs : SlR R sz H0 v xs) (hj : j < xs.length) (h : ∀ b off c, HRow H0 b off c → R H0 c (xs[j]'hj) → AnyO P n W0 Q ((d, .pointer (some ⟨b, off, none⟩)) :: F) H H0 L L0 m ops fuel (listed.setIfInBounds i true) k) (hok : takeOk ops m listed i = true := by decide +kernel)
    (hl : H0.le H := by first | exact Go.Sx.Heap.le.refl _ | assumption | ((try simp only [Go.Sx.le_self] at *); (repeat (first | exact Go.Sx.Heap.le.refl _ | assumption | refine Go.Sx.Heap.le.trans ?_ ‹Go.Sx.Heap.le _ _›)))) (hsub : Sub L L0 := by (repeat (first | exact Go.Sx.Sub.refl _ | exact Go.Sx.Sub.nil _ | (apply Go.Sx.sub_pick; (repeat (first | exact Go.Sx.Has.here | apply Go.Sx.Has.there)); skip) | apply Go.Sx.Sub.drop))) (hd : Nat.blt d n = true := by rfl) : AnyO P n W0 Q F H H0 L L0 m ops (fuel + 1) listed k := by
  obtain ⟨rfl⟩ := hin
  obtain ⟨base, cap, rfl, h1, h2⟩ := hs.shape
  obtain ⟨b, off, c, rfl, h3, h4, h5⟩ := hs.get hj
  exact gny_pure i hi hg (op_indexAddr (opvs2 hv).1 (opvs2 hv).2 (by omega) (by omega)) (h b _ c h4 h5) hok hl hsub hd
theorem gny_ldNH (i : Nat) {g : Option (Nat × Bool)} {gv : Option (Value × Bool)} {x : Operand} {t : TypeId} {b off sz : Nat} {cs : List Value} [TAgg P t true] [TSz P t sz] (hi : ops[i]? = some ⟨some d, .load t x, ty, pos, aft, g⟩) (hg : gval ops F g = some gv) [hb : GOk gv true] (hx : opv F x = some (.pointer (some ⟨b, off, none⟩))) (hr : HRow H0 b off cs) (hlen : cs.length = sz) (h : AnyO P n W0 Q ((d, .agg cs.toArray) :: F) H H0 L L0 m ops fuel (listed.setIfInBounds i true) k) (hok : takeOk ops m listed i = true := by decide +kernel)
    (hl : H0.le H := by first | exact Go.Sx.Heap.le.refl _ | assumption | ((try simp only [Go.Sx.le_self] at *); (repeat (first | exact Go.Sx.Heap.le.refl _ | assumption | refine Go.Sx.Heap.le.trans ?_ ‹Go.Sx.Heap.le _ _›)))) (hsub : Sub L L0 := by (repeat (first | exact Go.Sx.Sub.refl _ | exact Go.Sx.Sub.nil _ | (apply Go.Sx.sub_pick; (repeat (first | exact Go.Sx.Has.here | apply Go.Sx.Has.there)); skip) | apply Go.Sx.Sub.drop))) (hd : Nat.blt d n = true := by rfl) : AnyO P n W0 Q F H H0 L L0 m ops (fuel + 1) listed k := gny_pure i hi hg (op_loadNH hx hr hlen) h hok hl hsub hd
theorem gny_w (i : Nat) {g : Option (Nat × Bool)} {gv : Option (Value × Bool)} (hi : ops[i]? = some ⟨some d, op, ty, pos, aft, g⟩) (hg : gval ops F g = some gv) [hb : GOk gv true] (h : OpW P n W0 ⟨some d, op, ty, pos, aft, g⟩ F H L (fun v H' L' => H0.le H' ∧ Sub L' L0 ∧ AnyO P n W0 Q ((d, v) :: F) H' H0 L' L0 m ops fuel (listed.setIfInBounds i true) k))
    (hr : Region.ready .any ops listed = [i] := by decide +kernel) (hd : Nat.blt d n = true := by rfl) : AnyO P n W0 Q F H H0 L L0 m ops (fuel + 1) listed k :=
  ⟨any_one hr fun a w hF hS => by
    unfold wpOpY
    simp only [hi]
    rw [if_pos (wanted_T hg hF)]
    exact (h a w _ hF hS fun v H' L' w' _ ⟨h1, h2, h3⟩ hs => ⟨(hs.weak h1).sub h2, h3.run _ _ (hF.put hd v) hs⟩)⟩
theorem gny_call (i : Nat) {g : Option (Nat × Bool)} {gv : Option (Value × Bool)} {f : FuncId} {l : List Operand} {ts : Array TypeId} {A R : List HProp} {Post : Value → Heap → List HProp → Prop} [TFn P f] (hi : ops[i]? = some ⟨some d, .call ⟨.value (.func f), l.toArray, ts⟩, ty, pos, aft, g⟩) (hg : gval ops F g = some gv) [hb : GOk gv true] (ha : opvs F l = some vs) (hs : Ct P f vs.toArray W0 H A Post)
    (hk : ∀ r H' B, H.le H' → Post r H' B → Sub (B ++ R) L0 ∧ AnyO P n W0 Q ((d, r) :: F) H' H0 (B ++ R) L0 m ops fuel (listed.setIfInBounds i true) k) (ht : Take L A R := by repeat (first | exact Go.Sx.Take.nil | (apply Go.Sx.Take.cons; focus (repeat (first | exact Go.Sx.Has.here | apply Go.Sx.Has.there)))))
    (hl : H0.le H := by first | exact Go.Sx.Heap.le.refl _ | assumption | ((try simp only [Go.Sx.le_self] at *); (repeat (first | exact Go.Sx.Heap.le.refl _ | assumption | refine Go.Sx.Heap.le.trans ?_ ‹Go.Sx.Heap.le _ _›)))) (hr : Region.ready .any ops listed = [i] := by decide +kernel) (hd : Nat.blt d n = true := by rfl) : AnyO P n W0 Q F H H0 L L0 m ops (fuel + 1) listed k :=
  gny_w i hi hg (op_call (opvs_args ha) hs ht fun r H' B h1 h2 => ⟨hl.trans h1, (hk r H' B h1 h2).1, (hk r H' B h1 h2).2⟩) hr hd
end
end Go.Sx
namespace Go.Sx
open Go Go.X
section
variable {P : Program} {c x y : Operand} {p q : Prop} {dp : Decidable p} {dq : Decidable q}
end
section
variable {q : Bool} {P : Program} {n : NF} {W0 : GW} {Q : Exit → Act → GW → Prop} {F : Slots} {H : Heap} {L : List HProp} {ops : Array Oper} {rest : List Oper} {k : List Fr} {op : Op} {ty ty' : TypeId} {pos pos' : String} {aft aft' : Array Edge} {d d' : Tmp} {g g' : Option (Nat × Bool)} {v : Value} {vs us : List Value} {gv gv' : Option (Value × Bool)} {p : Prop}
end
section
variable {P : Program} {n : NF} {W0 : GW} {Q : Exit → Act → GW → Prop} {F : Slots} {H H0 : Heap} {L L0 : List HProp} {m fuel : Nat} {ops : Array Oper} {listed : Array Bool} {k : List Fr} {op : Op} {ty : TypeId} {pos : String} {aft : Array Edge} {d : Tmp} {v : Value} {vs us : List Value} {g : Option (Nat × Bool)} {gv : Option (Value × Bool)} {p : Prop}
theorem gny_sym (i : Nat) (hi : ops[i]? = some ⟨some d, op, ty, pos, aft, g⟩) (hg : gval ops F g = some gv) [hs : GSym gv p] (hv : p → OpP P n ⟨some d, op, ty, pos, aft, g⟩ F H0 L0 v) (h : AnyO P n W0 Q ((d, gd p v) :: F) H H0 L L0 m ops fuel (listed.setIfInBounds i true) k)
    (hok : takeOk ops m listed i = true) (hl : H0.le H) (hsub : Sub L L0) (hd : Nat.blt d n = true) : AnyO P n W0 Q F H H0 L L0 m ops (fuel + 1) listed k := by
  by_cases hp : p
  · haveI := hs.t hp
    rw [gd_T hp] at h
    exact gny_pure i hi hg (hv hp) h hok hl hsub hd
  · haveI := hs.f hp
    rw [gd_F hp] at h
    exact gny_skip i hi hg h hok hl hsub hd
theorem gny_pcall (i : Nat) {f : FuncId} {l : List Operand} {ts : Array TypeId} {A R : List HProp} [TFn P f] (hi : ops[i]? = some ⟨some d, .call ⟨.value (.func f), l.toArray, ts⟩, ty, pos, aft, g⟩) (hg : gval ops F g = some gv) [hb : GOk gv true] (ha : opvs F l = some vs) (hs : Ct P f vs.toArray W0 H A (fun r H' B => r = v ∧ B = A ∧ H' = H))
    (hk : AnyO P n W0 Q ((d, v) :: F) H H0 L L0 m ops fuel (listed.setIfInBounds i true) k) (ht : Take L A R := by repeat (first | exact Go.Sx.Take.nil | (apply Go.Sx.Take.cons; focus (repeat (first | exact Go.Sx.Has.here | apply Go.Sx.Has.there)))))
    (hsub : Sub L L0 := by (repeat (first | exact Go.Sx.Sub.refl _ | exact Go.Sx.Sub.nil _ | (apply Go.Sx.sub_pick; (repeat (first | exact Go.Sx.Has.here | apply Go.Sx.Has.there)); skip) | apply Go.Sx.Sub.drop)))
    (hl : H0.le H := by first | exact Go.Sx.Heap.le.refl _ | assumption | ((try simp only [Go.Sx.le_self] at *); (repeat (first | exact Go.Sx.Heap.le.refl _ | assumption | refine Go.Sx.Heap.le.trans ?_ ‹Go.Sx.Heap.le _ _›)))) (hr : Region.ready .any ops listed = [i] := by decide +kernel) (hd : Nat.blt d n = true := by rfl) : AnyO P n W0 Q F H H0 L L0 m ops (fuel + 1) listed k :=
  gny_call i hi hg ha hs (fun r H' B hl ⟨e1, e2, e3⟩ => by subst e1 e2 e3; exact ⟨ht.from.trans hsub, any_L ht.from hk⟩) ht hl hr hd
end
end Go.Sx
namespace Go.Sx
open Go Go.X
section
variable {P : Program} {n : NF} {W0 : GW} {Q : Exit → Act → GW → Prop} {F : Slots} {H H0 : Heap} {L L0 : List HProp} {m fuel : Nat} {ops : Array Oper} {listed : Array Bool} {k : List Fr} {op : Op} {ty ty' : TypeId} {pos pos' : String} {aft aft' : Array Edge} {d d' : Tmp} {v : Value} {vs us : List Value} {g g' : Option (Nat × Bool)} {gv gv' : Option (Value × Bool)} {p : Prop}
theorem gny_el (i j : Nat) {α : Type} {R : Rd α} {val : α → Value} {ok : α → Prop} {T : TypeId} {t e : TypeId} {x y : Operand} {xs : List α} {ii : Int} {jj : Nat} {kd : IntKind} [h1 : R1 R val ok] [hR : RdOk R 1] [TSl P t T] [TSz P T 1] [TAgg P e false] (hi : ops[i]? = some ⟨some d, .indexAddr t x y, ty, pos, aft, g⟩) (hj : ops[j]? = some ⟨some d', .load e (.tmp d), ty', pos', aft', g'⟩) (hg : gval ops F g = some gv) [hb : GOk gv true] (hg' : gval ops F g' = some gv') [hb' : GOk gv' true]
    (hv : opvs F [x, y] = some [v, .int kd ii]) [hin : NatOf ii jj] (hs : SlR R 1 H0 v xs) (hlt : jj < xs.length) (h : AnyO P n W0 Q ((d', val (xs[jj]'hlt)) :: F) H H0 L L0 m ops fuel ((listed.setIfInBounds i true).setIfInBounds j true) k) (hn : fget F d = none := by rfl) (hok : takeOk ops m listed i = true := by decide +kernel) (hok' : takeOk ops m (listed.setIfInBounds i true) j = true := by decide +kernel)
    (hl : H0.le H := by first | exact Go.Sx.Heap.le.refl _ | assumption | ((try simp only [Go.Sx.le_self] at *); (repeat (first | exact Go.Sx.Heap.le.refl _ | assumption | refine Go.Sx.Heap.le.trans ?_ ‹Go.Sx.Heap.le _ _›)))) (hsub : Sub L L0 := by (repeat (first | exact Go.Sx.Sub.refl _ | exact Go.Sx.Sub.nil _ | (apply Go.Sx.sub_pick; (repeat (first | exact Go.Sx.Has.here | apply Go.Sx.Has.there)); skip) | apply Go.Sx.Sub.drop))) (hd : Nat.blt d n = true := by rfl) (hd' : Nat.blt d' n = true := by rfl) : AnyO P n W0 Q F H H0 L L0 m ops (fuel + 1 + 1) listed k := by
  refine gny_ixp i hi hg hv hs hlt (fun b o c hr hc => ?_) hok hl hsub hd
  obtain ⟨rfl, _⟩ := h1.h hc
  refine gny_pure (gv := gv') j hj (gval_new hn hg') (op_loadH (b := b) (off := o) (by simp [opv, fget]) (hrow_cell hr 0 rfl rfl)) ?_ hok' hl hsub hd'
  exact ⟨h.run.sub (Sub.refl _) (fsub_new hn)⟩
end
section
variable {P : Program} {n : NF} {W0 : GW} {Q : Exit → Act → GW → Prop} {F : Slots} {H : Heap} {L R : List HProp} {ops : Array Oper} {rest : List Oper} {k : List Fr} {e : Exit} {c : Code} {b : Nat} {o : Obj}
section
variable {κ ν : Type} {ek : κ → Value} {RV : Rd ν} {ag : Bool} {H0 : Heap} {ms : List (κ × ν)}
end
end
section
variable {q : Bool} {κ ν : Type} [DecidableEq κ] {P : Program} {n : NF} {W0 : GW} {Q : Exit → Act → GW → Prop} {F : Slots} {H H0 : Heap} {L R : List HProp} {ops : Array Oper} {rest : List Oper} {k : List Fr} {ty : TypeId} {pos : String} {aft : Array Edge} {d : Tmp} {g : Option (Nat × Bool)} {gv : Option (Value × Bool)} {p : Prop} {b : Nat}
variable {ek : κ → Value} {RV : Rd ν} {ag : Bool} {t kt et : TypeId} {ms : List (κ × ν)} {ky : κ}
end
end Go.Sx
