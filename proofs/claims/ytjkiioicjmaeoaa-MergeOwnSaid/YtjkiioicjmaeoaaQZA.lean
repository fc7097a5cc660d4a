/- The special steps as rules over carriers: a company begins, lends, receives, is over. No program in sight. -/
import Derived.Test.YtjkiioicjmaeoaaQE9
import Derived.Conc.AtomicLaws2
import Derived.Conc.MarkLaws
import Derived.Conc.DeferLaws
set_option linter.unusedVariables false
set_option linter.unusedSimpArgs false
namespace Go.Sx
open Go Go.X
noncomputable def gd (p : Prop) (v : Value) : Value := @ite _ p (Classical.propDecidable p) v undef
theorem gd_T {p : Prop} {v : Value} (h : p) : gd p v = v := by unfold gd; rw [if_pos h]
theorem gd_F {p : Prop} {v : Value} (h : ¬ p) : gd p v = undef := by unfold gd; rw [if_neg h]
class GSym (gv : Option (Value × Bool)) (p : outParam Prop) : Prop where
  t : p → GOk gv true
  f : ¬ p → GOk gv false
instance {p : Prop} {dp : Decidable p} : GSym (some (.bool (@decide p dp), true)) p := ⟨fun h => ⟨by simp [h]⟩, fun h => ⟨by simp [h, gno]⟩⟩
instance {p : Prop} {dp : Decidable p} : GSym (some (.bool (@decide p dp), false)) (¬ p) := ⟨fun h => ⟨by simp [h]⟩, fun h => ⟨by have := Classical.not_not.1 h; simp [this, gno]⟩⟩
instance {r p : Prop} {dp : Decidable p} : GSym (some (gd r (.bool (@decide p dp)), true)) (r ∧ p) := ⟨fun h => ⟨by simp [gd_T h.1, h.2]⟩, fun h => ⟨by
  by_cases hr : r
  · have : ¬ p := fun hp => h ⟨hr, hp⟩
    simp [gd_T hr, this, gno]
  · simp [gd_F hr, undef, gno]⟩⟩
instance {r p : Prop} {dp : Decidable p} : GSym (some (gd r (.bool (@decide p dp)), false)) (r ∧ ¬ p) := ⟨fun h => ⟨by simp [gd_T h.1, h.2]⟩, fun h => ⟨by
  by_cases hr : r
  · have : p := Classical.not_not.1 fun hp => h ⟨hr, hp⟩
    simp [gd_T hr, this, gno]
  · simp [gd_F hr, undef, gno]⟩⟩
section
variable {P : Program} {c x y : Operand} {p q : Prop} {dp : Decidable p} {dq : Decidable q}
end
section
variable {q : Bool} {P : Program} {n : NF} {W0 : GW} {Q : Exit → Act → GW → Prop} {F : Slots} {H : Heap} {L : List HProp} {ops : Array Oper} {rest : List Oper} {k : List Fr} {op : Op} {ty ty' : TypeId} {pos pos' : String} {aft aft' : Array Edge} {d d' : Tmp} {g g' : Option (Nat × Bool)} {v : Value} {vs us : List Value} {gv gv' : Option (Value × Bool)} {p : Prop}
theorem Take.from {L A R : List HProp} (h : Take L A R) : Sub (A ++ R) L := by
  induction h with
  | nil => exact Sub.refl _
  | cons h _ ih => exact (Sub.cons ih).trans h.from
theorem ops_pcall {q : Bool} {f : FuncId} {l : List Operand} {ts : Array TypeId} {A R : List HProp} [TFn P f] (hg : gval ops F g = some gv) [hb : GOk gv true] (ha : opvs F l = some vs) (hs : Ct P f vs.toArray W0 H A (fun r H' B => r = v ∧ B = A ∧ H' = H))
    (hk : Ops P n W0 Q ((d, v) :: F) H L q ops rest k) (ht : Take L A R := by repeat (first | exact Go.Sx.Take.nil | (apply Go.Sx.Take.cons; focus (repeat (first | exact Go.Sx.Has.here | apply Go.Sx.Has.there)))))
    (hd : Nat.blt d n = true := by rfl) : Ops P n W0 Q F H L q ops (⟨some d, .call ⟨.value (.func f), l.toArray, ts⟩, ty, pos, aft, g⟩ :: rest) k := by
  cases q with
  | false => exact ops_call hg ha hs (fun r H' B hl ⟨e1, e2, e3⟩ => by subst e1 e2 e3; exact ops_L ht.from hk) ht hd
  | true =>
    have hs' := hs.mono fun r H' B _ h => (⟨h.1, h.2.2, h.2.1⟩ : r = v ∧ H' = H ∧ B = A)
    cases g with
    | none => exact ⟨⟨d, v, rfl, hd, .inl fun a w hF hS => ⟨by simp [Region.wanted], .inl (yv_call (opvs_args ha) hs' ht ht.from hF hS)⟩, hk.run⟩⟩
    | some jw =>
      obtain ⟨j, w⟩ := jw
      obtain ⟨dj, u, hj, hu, hw, _⟩ := gval_spec (b := true) hg
      rw [hw rfl] at hu
      exact ⟨⟨d, v, rfl, hd, .inl fun a w hF hS => ⟨by simp [Region.wanted, hF.yielded hj hu, vb], .inl (yv_call (opvs_args ha) hs' ht ht.from hF hS)⟩, hk.run⟩⟩
end
section
variable {P : Program} {n : NF} {W0 : GW} {Q : Exit → Act → GW → Prop} {F : Slots} {H H0 : Heap} {L L0 : List HProp} {m fuel : Nat} {ops : Array Oper} {listed : Array Bool} {k : List Fr} {op : Op} {ty : TypeId} {pos : String} {aft : Array Edge} {d : Tmp} {v : Value} {vs us : List Value} {g : Option (Nat × Bool)} {gv : Option (Value × Bool)} {p : Prop}
end
end Go.Sx
namespace Go.Sx
open Go Go.X
instance {P : Program} {x : Operand} {T : TypeId} {p : Prop} {dp : Decidable p} : POp P (.unOp .not T x) [.bool (@decide p dp)] True (.bool (@decide (¬ p) instDecidableNot)) := ⟨fun _ h => (op_not (opvs1 h)).cast (by simp)⟩
section
variable {P : Program} {n : NF} {W0 : GW} {Q : Exit → Act → GW → Prop} {F : Slots} {H H0 : Heap} {L L0 : List HProp} {m fuel : Nat} {ops : Array Oper} {listed : Array Bool} {k : List Fr} {op : Op} {ty ty' : TypeId} {pos pos' : String} {aft aft' : Array Edge} {d d' : Tmp} {v : Value} {vs us : List Value} {g g' : Option (Nat × Bool)} {gv gv' : Option (Value × Bool)} {p : Prop}
end
section
variable {P : Program} {n : NF} {W0 : GW} {Q : Exit → Act → GW → Prop} {F : Slots} {H : Heap} {L R : List HProp} {ops : Array Oper} {rest : List Oper} {k : List Fr} {e : Exit} {c : Code} {b : Nat} {o : Obj}
theorem sat_frz {G : Act → GW → Prop} (hh : Has L (pt b o) R) (h : H b = none → H.le (upd H b o) → Sat n W0 F (upd H b o) R G) : Sat n W0 F H L G := fun a w hF hS => by
  obtain ⟨h0, h1⟩ := (hS.sub hh.to).freeze
  exact h h0 (le_upd h0) a w hF h1
theorem row_hrow {T : TypeId} {cs : List Value} : HRow (upd H b (.cells cs.toArray T (0, 0))) b 0 cs := fun j v hj => by
  simp only [hcell, upd_same]; simpa using hj
theorem ops_frzR {T : TypeId} {cs : List Value} (hh : Has L (row b T cs) R) (h : ∀ H', H.le H' → HRow H' b 0 cs → Ops P n W0 Q F H' R false ops rest k) : Ops P n W0 Q F H L false ops rest k := ⟨sat_frz hh fun _ hl => (h _ hl row_hrow).run⟩
section
variable {κ ν : Type} {ek : κ → Value} {RV : Rd ν} {ag : Bool} {H0 : Heap} {ms : List (κ × ν)}
end
end
section
variable {q : Bool} {κ ν : Type} [DecidableEq κ] {P : Program} {n : NF} {W0 : GW} {Q : Exit → Act → GW → Prop} {F : Slots} {H H0 : Heap} {L R : List HProp} {ops : Array Oper} {rest : List Oper} {k : List Fr} {ty : TypeId} {pos : String} {aft : Array Edge} {d : Tmp} {g : Option (Nat × Bool)} {gv : Option (Value × Bool)} {p : Prop} {b : Nat}
variable {ek : κ → Value} {RV : Rd ν} {ag : Bool} {t kt et : TypeId} {ms : List (κ × ν)} {ky : κ}
class KeyV (ek : outParam (κ → Value)) (v : Value) (ky : outParam κ) : Prop where
  h : v = ek ky
instance {s : ByteArray} : KeyV Value.string (.string s) s := ⟨rfl⟩
theorem ops_makeMap {κ ν : Type} [DecidableEq κ] (ek : κ → Value) (RV : Rd ν) (ag : Bool) (hg : gval ops F g = some gv) [hb : GOk gv true] (hk : ∀ b, H b = none → Ops P n W0 Q ((d, .map (some b)) :: F) H (mapO ek RV ag H b ([] : List (κ × ν)) :: L) false ops rest k) (hd : Nat.blt d n = true := by rfl) : Ops P n W0 Q F H L false ops (⟨some d, .makeMap t none, ty, pos, aft, g⟩ :: rest) k :=
  ops_w hg hd (op_makeMap hk)
theorem ops_lkO {x y : Operand} {kv : Value} {val : ν → Value} {okp : ν → Prop} {z : ν} [h1 : R1 RV val okp] [hT : TMap P t kt et] [hV : KeyV ek kv ky] [hK : TKey P kt ek] [hZ : TZ P et (val z)] (hg : gval ops F g = some gv) [hb : GOk gv true] (hv : opvs F [x, y] = some [.map (some b), kv]) (hh : Has L (mapO ek RV false H0 b ms) R)
    (hk : Ops P n W0 Q ((d, val ((mget ky ms).getD z)) :: F) H L q ops rest k) (hd : Nat.blt d n = true := by rfl) : Ops P n W0 Q F H L q ops (⟨some d, .lookup t x y false, ty, pos, aft, g⟩ :: rest) k :=
  ops_pure hg hd (op_lkO (d := z) (opvs2 hv).1 ((opvs2 hv).2.trans (congrArg some hV.h)) hh) hk
theorem ops_update {x y z : Operand} {kv v : Value} {u : ν} {cs : List Value} [hT : TMap P t kt et] [hV : KeyV ek kv ky] [hK : TKey P kt ek] (hv : opvs F [x, y, z] = some [.map (some b), kv, v]) (hc : v = ofC ag cs) (hu : RV H0 cs u) (hh : Has L (mapO ek RV ag H0 b ms) R)
    (hk : Ops P n W0 Q F H (mapO ek RV ag H0 b (mset ky u ms) :: R) false ops rest k) : Ops P n W0 Q F H L false ops (⟨none, .mapUpdate t x y z, ty, pos, aft, none⟩ :: rest) k :=
  ops_n (op_update (opvs3 hv).1 ((opvs3 hv).2.1.trans (congrArg some hV.h)) (opvs3 hv).2.2 hc hu hh hk)
end
end Go.Sx
namespace Go.Sx
open Go Go.X
section
variable {n : NF} {W0 : GW} {F : Slots} {H H' : Heap} {L R : List HProp} {A : HProp} {D : Heap} {G : Act → GW → Prop}
theorem sat_lend (hh : Has L A R) (h : ∀ D, A D → Disj H D → H.le (union H D) → D.le (union H D) → Sat n W0 F (union H D) R G) : Sat n W0 F H L G := fun a w hF hS => by
  obtain ⟨hA, hR, pa, r, d, dA, dR, lA, lR⟩ := (hS.sub hh.to).parts
  exact h hA pa dA (le_union_left _ _) (le_union_right dA) a w hF (hS.mk' (union_le hS.ro lA) ⟨hR, r, lR, disj_union dR d⟩)
theorem sat_back (ho : A D) (hd : Disj H D) (hl : (union H D).le H') (h : Sat n W0 F H (A :: L) G) : Sat n W0 F H' L G := fun a w hF hS => by
  obtain ⟨x, hx, lx, dx⟩ := hS.own
  have d1 : Disj (union H D) x := dx.mono hl
  have lw := hl.trans hS.ro
  exact h a w hF (hS.of_parts ((le_union_left _ _).trans lw) ho hx (d1.mono (le_union_right hd)) hd (d1.mono (le_union_left _ _)) ((le_union_right hd).trans lw) lx)
end
section
variable {P : Program} {n : NF} {W0 : GW} {Q : Exit → Act → GW → Prop} {F : Slots} {H H' : Heap} {L R : List HProp} {A : HProp} {D : Heap} {ops : Array Oper} {rest : List Oper} {k : List Fr} {e : Exit} {c : Code}
theorem ops_lend (hh : Has L A R) (h : ∀ D, A D → Disj H D → H.le (union H D) → D.le (union H D) → Ops P n W0 Q F (union H D) R false ops rest k) : Ops P n W0 Q F H L false ops rest k := ⟨sat_lend hh fun D a b x y => (h D a b x y).run⟩
theorem ex_lend (hh : Has L A R) (h : ∀ D, A D → Disj H D → H.le (union H D) → D.le (union H D) → Ex P n W0 Q F (union H D) R c k) : Ex P n W0 Q F H L c k := ⟨sat_lend hh fun D a b x y => (h D a b x y).run⟩
theorem ops_back (ho : A D) (hd : Disj H D) (hl : (union H D).le H') (h : Ops P n W0 Q F H (A :: L) false ops rest k) : Ops P n W0 Q F H' L false ops rest k := ⟨sat_back ho hd hl h.run⟩
theorem ex_back (ho : A D) (hd : Disj H D) (hl : (union H D).le H') (h : Ex P n W0 Q F H (A :: L) c k) : Ex P n W0 Q F H' L c k := ⟨sat_back ho hd hl h.run⟩
theorem out_back (ho : A D) (hd : Disj H D) (hl : (union H D).le H') (h : Out P n W0 Q F H (A :: L) e k) : Out P n W0 Q F H' L e k := ⟨sat_back ho hd hl h.run⟩
end
class RdFlat {α : Type} (R : Rd α) : Prop where
  flat : ∀ {H H' c x}, R H c x → R H' c x
theorem RL.flat {α : Type} {R : Rd α} [RdFlat R] {H H' : Heap} : ∀ {xs : List α} {cs : List Value}, RL R H cs xs → RL R H' cs xs
  | [], _, h => h
  | _ :: _, _, ⟨c, r, e, h1, h2⟩ => ⟨c, r, e, RdFlat.flat h1, h2.flat⟩
theorem ownS_flat {α : Type} {R : Rd α} [RdFlat R] {sz w T : Nat} {H H' : Heap} {s : Value} {xs : List α} {h : Heap} (ho : ownS R sz w T H s xs h) : ownS R sz w T H' s xs h := by
  obtain ⟨cs, ⟨a, b⟩, c⟩ := ho; exact ⟨cs, ⟨a.flat, b⟩, c⟩
theorem sub_flat {α : Type} {R : Rd α} [RdFlat R] {sz w T : Nat} (H H' : Heap) {s : Value} {xs : List α} {L : List HProp} : Sub (ownS R sz w T H s xs :: L) (ownS R sz w T H' s xs :: L) := fun h ⟨h1, h2, a, r⟩ => ⟨h1, h2, ownS_flat a, r⟩
theorem row_reads {b : Nat} {T : TypeId} {cs : List Value} {h H : Heap} (ho : row b T cs h) (hl : h.le H) : HRow H b 0 cs := fun j v hj => by
  have := hl _ _ ho
  simp only [hcell, this]; simpa using hj
end Go.Sx
namespace Go.X
open Go Go.Sx Go.Conc Go.ConcN
open Go.ConcR (KK wgBlock WgAt stA smA rd wr mk)
def setS (W : GW) (s : Gh) : GW := { W with s := s }
def Bnd (m : Heap) : Prop := ∃ N, ∀ b, N ≤ b → m b = none
theorem bnd_hp (w : World) : Bnd (hp w) := ⟨w.heap.size, fun b hb => by
  cases h : hp w b with
  | none => rfl
  | some o => exact absurd (hp_lt h) (by omega)⟩
theorem Bnd.le {m m' : Heap} (h : Bnd m) (hl : m'.le m) : Bnd m' := by
  obtain ⟨N, k⟩ := h
  refine ⟨N, fun b hb => ?_⟩
  cases e : m' b with
  | none => rfl
  | some o => have := hl b o e; rw [k b hb] at this; cases this
theorem Bnd.join {a b : Heap} (h : Bnd a) (h' : Bnd b) : Bnd (join a b) := by
  obtain ⟨N, k⟩ := h
  obtain ⟨M, k'⟩ := h'
  refine ⟨max N M, fun x hx => ?_⟩
  have h1 := k x (by omega)
  have h2 := k' x (by omega)
  simp [Go.X.join, h1, h2]
theorem bnd_empty : Bnd Heap.empty := ⟨0, fun _ _ => rfl⟩
def heapOf (m : Heap) (N : Nat) (W : World) : World := { W with heap := Array.ofFn (n := N) fun i => (m i.1).getD junkO }
def worldOf (m : Heap) (N : Nat) (W : World) : World := outW (hide m (heapOf m N W)) (heapOf m N W)
theorem hp_worldOf {m : Heap} {N : Nat} {W : World} (h : ∀ b, N ≤ b → m b = none) : hp (worldOf m N W) = m := by
  refine hp_hide fun b o hb => ?_
  have hlt : b < N := Nat.lt_of_not_le fun hle => by rw [h b hle] at hb; cases hb
  simp [rp, heapOf, hlt, hb]
theorem le_join_left (a b : Heap) : a.le (join a b) := fun x o h => by simp [join, h]
theorem le_join_right {a b : Heap} (hd : Disj a b) : b.le (join a b) := fun x o h => by
  rcases hd x with h' | h'
  · simp [join, h', h]
  · rw [h] at h'; cases h'
theorem disj_join {m a b : Heap} (ha : Disj m a) (hb : Disj m b) : Disj m (join a b) := fun x => by
  rcases ha x with h | h
  · exact .inl h
  · rcases hb x with h' | h'
    · exact .inl h'
    · exact .inr (by simp [join, h, h'])
theorem disj_of_join_left {m a b : Heap} (h : Disj m (join a b)) : Disj m a := fun x => (h x).imp id fun hx => by
  simp only [join] at hx; split at hx
  · cases hx
  · assumption
theorem disj_of_join_right {m a b : Heap} (hab : Disj a b) (h : Disj m (join a b)) : Disj m b := fun x => (h x).elim .inl fun hx => by
  rcases hab x with h1 | h1
  · simp only [join, h1] at hx; exact .inr hx
  · exact .inr h1
theorem big_two {A B : List HProp} {h1 h2 h : Heap} (a : big A h1) (b : big B h2) (d : Disj h1 h2) (l1 : h1.le h) (l2 : h2.le h) : big (A ++ B) h := by
  induction A generalizing h1 h with
  | nil => exact big_mono l2 b
  | cons X A ih =>
    obtain ⟨x, y, p, r, dd, lx, ly⟩ := a
    refine ⟨x, union y h2, p, ih r (d.mono ly) (le_union_left _ _) (le_union_right (d.mono ly)), (disj_union dd.symm ((d.mono lx).symm)).symm, lx.trans l1, union_le (ly.trans l1) l2⟩
theorem stG_make {Wr : BW} {W0 w : GW} {H : Heap} {L : List HProp} (hS : StG W0 H w L) (hsm : Sm Wr w) {m : Heap} (s : Gh) (hb : Bnd m) {H' : Heap} {L' : List HProp} (ro : H'.le m)
    (own : ∃ x, big L' x ∧ x.le m ∧ Disj H' x) (dj : Disj m (pool s)) : ∃ w' : GW, Rep Wr w' ⟨m, s⟩ ∧ StG (setS W0 s) H' w' L' := by
  obtain ⟨N, hN⟩ := hb
  have e := hp_worldOf (W := Wr.toWorld) hN
  refine ⟨⟨⟨worldOf m N Wr.toWorld, Wr.post⟩, s⟩, ⟨e, rfl, ⟨rfl, rfl, rfl⟩⟩, ⟨⟨⟨?_, ?_, rfl, low_hide⟩, ?_, ?_⟩, rfl, ?_, ?_⟩⟩
  · exact hsm.os.trans hS.st.env.os
  · exact hsm.tape.trans hS.st.env.tape
  · show H'.le (hp (worldOf m N Wr.toWorld)); rw [e]; exact ro
  · show ∃ x, big L' x ∧ x.le (hp (worldOf m N Wr.toWorld)) ∧ Disj H' x; rw [e]; exact own
  · exact hsm.post.trans hS.ps
  · show Disj (hp (worldOf m N Wr.toWorld)) (pool s); rw [e]; exact dj
def OpG (P : Program) (n : NF) (W0 : GW) (o : Oper) (F : Slots) (H : Heap) (L : List HProp) (K : Value → GW → Heap → List HProp → Prop) : Prop :=
  ∀ a w (next : Act → GW → Prop) (Q : Exit → Act → GW → Prop), FrOk n a F → StG W0 H w L →
    (∀ v W1 H' L' w', K v W1 H' L' → StG W1 H' w' L' → next (a.put o.dst v) w') → o.wpV P a w next Q
theorem listed_nil {P : Program} {fn : FuncId} {a : Act} {o : Oper} {w : World} (he : (execOp a.eval o).events P w #[] = #[]) : listed P fn a o w = #[] := by unfold listed; rw [he, seen_none]
class TCh (P : Program) (t : TypeId) (e : outParam TypeId) : Prop where
  und : ∃ d, P.underlying t = some (.chan d e)
section
variable {q : Bool} {P : Program} {n : NF} {W0 : GW} {Q : Exit → Act → GW → Prop} {F : Slots} {H : Heap} {L : List HProp} {ops : Array Oper} {rest : List Oper} {k : List Fr} {op : Op} {ty : TypeId} {pos : String} {aft : Array Edge} {d : Tmp} {dst : Option Tmp} {g : Option (Nat × Bool)} {K : Value → GW → Heap → List HProp → Prop}
theorem ops_g (h : OpG P n W0 ⟨some d, op, ty, pos, aft, none⟩ F H L (fun v W1 H' L' => Ops P n W1 Q ((d, v) :: F) H' L' false ops rest k)) (hd : Nat.blt d n = true := by rfl) :
    Ops P n W0 Q F H L false ops (⟨some d, op, ty, pos, aft, none⟩ :: rest) k := ⟨by
  intro a w hF hS
  unfold wpListV
  rw [if_pos (by simp [Region.wanted])]
  exact h a w _ _ hF hS fun v W1 H' L' w' hk hs => hk.run _ _ (hF.put hd v) hs⟩
theorem ops_g0 (h : OpG P n W0 ⟨none, op, ty, pos, aft, none⟩ F H L (fun v W1 H' L' => Ops P n W1 Q F H' L' false ops rest k)) :
    Ops P n W0 Q F H L false ops (⟨none, op, ty, pos, aft, none⟩ :: rest) k := ⟨by
  intro a w hF hS
  unfold wpListV
  rw [if_pos (by simp [Region.wanted])]
  exact h a w _ _ hF hS fun v W1 H' L' w' hk hs => hk.run _ _ (hF.put0 v) hs⟩
theorem opG_recv {c : Co} {i : Nat} {s : Snd} {z : Value} {t e : TypeId} {x : Operand} {LW : List HProp} [ht : TCh P t e] [hz : TZ P e z] (hs : W0.s = .co c) (hst : c.st = .run) (hsh : c.shut = false) (hi : c.snd[i]? = some s)
    (hwn : c.wn = true → i + 1 = c.snd.length) (hx : opv F x = some (.chan (some s.ch))) (hwin : big LW c.win) (hbw : Bnd c.win) (hd : Disj c.base c.win)
    (h0 : s.rem = [] → K (.tuple #[z, .bool false]) (setS W0 (.co { c with win := Heap.empty, wn := false })) H (LW ++ L))
    (h1 : ∀ y ys, s.rem = y :: ys → K (.tuple #[y, .bool true]) (setS W0 (.co { c with win := Heap.empty, wn := false, snd := c.snd.set i ⟨s.ch, ys⟩ })) H (LW ++ L)) :
    OpG P n W0 ⟨dst, .recv t x true, ty, pos, aft, g⟩ F H L K := by
  intro a w next Q hF hS hn Wr hsm ops j rest b kk cs ho hw hb hc
  have hws : w.s = .co c := hS.sh.trans hs
  have hdj : Disj (hp w.toWorld) (join c.base c.win) := by have := hS.dj; rw [hs] at this; exact this
  obtain ⟨d, hu⟩ := ht.und
  have hrun : ∀ w1, (execOp a.eval ⟨dst, .recv t x true, ty, pos, aft, g⟩).run P w1 = .ok (.comm #[rcase s.ch z] true (.recv true)) w1 := fun w1 => by
    simp only [execOp, hF.opv hx]; simp [run_underlying hu, hz.run, rcase]
  have hev : ∀ w1, (execOp a.eval ⟨dst, .recv t x true, ty, pos, aft, g⟩).events P w1 #[] = #[] := fun w1 => by
    simp only [execOp, hF.opv hx]; simp [run_underlying hu]
  have make : ∀ c' : Co, c'.base = c.base → c'.win = Heap.empty → ∃ w' : GW, Rep Wr w' ⟨join (hp w.toWorld) c.win, .co c'⟩ ∧ StG (setS W0 (.co c')) H w' (LW ++ L) := fun c' e1 e2 => by
    have hdw := disj_of_join_right hd hdj
    obtain ⟨y, y1, y2, y3⟩ := hS.own
    refine stG_make hS hsm _ ((bnd_hp _).join hbw) (hS.ro.trans (le_join_left _ _)) ⟨union c.win y, big_two hwin y1 (hdw.mono y2).symm (le_union_left _ _) (le_union_right (hdw.mono y2).symm), ?_, ?_⟩ ?_
    · exact union_le (le_join_right hdw) (y2.trans (le_join_left _ _))
    · exact (disj_union (hdw.mono hS.ro).symm y3.symm).symm
    · simp only [pool, e1, e2]
      intro bb
      rcases hdj bb with h | h
      · rcases hd bb with h' | h'
        · right; simp [join, h', Heap.empty]
        · left; simp [join, h, h']
      · right
        simp only [join] at h ⊢
        split at h
        · cases h
        · rename_i hh; simp [hh, Heap.empty]
  have srv : ∀ v, Go.Conc.served (G (b.at a (.inRegion ops (j :: rest) :: kk)) cs) v = G (b.at (a.put dst v) (.inRegion ops rest :: kk)) cs := fun v => by rw [served_G, ho]; rfl
  refine MI.special (sb_mono P Wr) ?_
  unfold xw
  rw [hws]
  refine SP.recv (i := i) (s := s) (z := z) hst hsh hi hwn rfl (fun w1 he hl => by rw [stepG_comm ho hw hb (hrun w1), listed_nil (hev w1)]) (fun e => ?_) fun y ys e => ?_
  · rw [srv]
    obtain ⟨w', r1, r2⟩ := make { c with win := Heap.empty, wn := false } rfl rfl
    exact hc _ _ ⟨w', r1, hn _ _ _ _ _ (h0 e) r2⟩
  · rw [srv]
    obtain ⟨w', r1, r2⟩ := make { c with win := Heap.empty, wn := false, snd := c.snd.set i ⟨s.ch, ys⟩ } rfl rfl
    exact hc _ _ ⟨w', r1, hn _ _ _ _ _ (h1 y ys e) r2⟩
end
end Go.X
