/- A cut behind a block. -/
import Derived.Test.YtafhinjggdknjaaDoorPAP
import Derived.Test.YtafhinjggdknjaaDoorPZA
import Derived.Lib.AppendZeros
import Derived.Laws.MakeOwn
set_option linter.unusedVariables false
set_option linter.unusedSimpArgs false
namespace Go.Sx
open Go Go.X
section
variable {n : NF} {W0 : GW} {F : Slots} {H H' : Heap} {L R : List HProp} {A : HProp} {D : Heap} {G : Act → GW → Prop}
theorem sat_lend (hh : Has L A R) (h : ∀ D, A D → LD W0 H D → H.le (union H D) → D.le (union H D) → Sat n W0 F (union H D) R G) : Sat n W0 F H L G := fun a w hF hS => by
  obtain ⟨hA, hR, pa, r, d, dA, dR, lA, lR⟩ := (hS.sub hh.to).parts
  exact h hA pa ⟨dA, hS.off_pool lA⟩ (le_union_left _ _) (le_union_right dA) a w hF (hS.mk' (union_le hS.ro (lA.trans (le_union_left _ _))) ⟨hR, r, lR, disj_union dR d⟩)
theorem sat_back (ho : A D) (hd : LD W0 H D) (hl : (union H D).le H') (h : Sat n W0 F H (A :: L) G) : Sat n W0 F H' L G := fun a w hF hS => by
  obtain ⟨x, hx, lx, dx⟩ := hS.own
  have d1 : Disj (union H D) x := dx.mono hl
  exact h a w hF (hS.of_parts (((le_union_left _ _).trans hl).trans hS.ro) ho hx (d1.mono (le_union_right hd.d)) hd.d (d1.mono (le_union_left _ _)) (hS.own_le ((le_union_right hd.d).trans hl) hd.p) lx)
theorem sat_weak (hl : H.le H') (h : Sat n W0 F H L G) : Sat n W0 F H' L G := fun a w hF hS => h a w hF (hS.weak hl)
end
section
variable {P : Program} {n : NF} {W0 : GW} {Q : Exit → Act → GW → Prop} {F : Slots} {H H' : Heap} {L R : List HProp} {A : HProp} {D : Heap} {ops : Array Oper} {rest : List Oper} {k : List Fr} {e : Exit} {c : Code}
theorem ops_lend (hh : Has L A R) (h : ∀ D, A D → LD W0 H D → H.le (union H D) → D.le (union H D) → Ops P n W0 Q F (union H D) R false ops rest k) : Ops P n W0 Q F H L false ops rest k := ⟨sat_lend hh fun D a b x y => (h D a b x y).run⟩
theorem ex_lend (hh : Has L A R) (h : ∀ D, A D → LD W0 H D → H.le (union H D) → D.le (union H D) → Ex P n W0 Q F (union H D) R c k) : Ex P n W0 Q F H L c k := ⟨sat_lend hh fun D a b x y => (h D a b x y).run⟩
theorem ops_back (ho : A D) (hd : LD W0 H D) (hl : (union H D).le H') (h : Ops P n W0 Q F H (A :: L) false ops rest k) : Ops P n W0 Q F H' L false ops rest k := ⟨sat_back ho hd hl h.run⟩
theorem ex_back (ho : A D) (hd : LD W0 H D) (hl : (union H D).le H') (h : Ex P n W0 Q F H (A :: L) c k) : Ex P n W0 Q F H' L c k := ⟨sat_back ho hd hl h.run⟩
theorem out_back (ho : A D) (hd : LD W0 H D) (hl : (union H D).le H') (h : Out P n W0 Q F H (A :: L) e k) : Out P n W0 Q F H' L e k := ⟨sat_back ho hd hl h.run⟩
theorem out_weak (hl : H.le H') (h : Out P n W0 Q F H L e k) : Out P n W0 Q F H' L e k := ⟨sat_weak hl h.run⟩
end
class RdFlat {α : Type} (R : Rd α) : Prop where
  flat : ∀ {H H' c x}, R H c x → R H' c x
instance : RdFlat rInt := ⟨fun h => h⟩
theorem RL.flat {α : Type} {R : Rd α} [RdFlat R] {H H' : Heap} : ∀ {xs : List α} {cs : List Value}, RL R H cs xs → RL R H' cs xs
  | [], _, h => h
  | _ :: _, _, ⟨c, r, e, h1, h2⟩ => ⟨c, r, e, RdFlat.flat h1, h2.flat⟩
theorem ownS_flat {α : Type} {R : Rd α} [RdFlat R] {sz w T : Nat} {H H' : Heap} {s : Value} {xs : List α} {h : Heap} (ho : ownS R sz w T H s xs h) : ownS R sz w T H' s xs h := by
  obtain ⟨cs, ⟨a, b⟩, c⟩ := ho; exact ⟨cs, ⟨a.flat, b⟩, c⟩
theorem sub_flat {α : Type} {R : Rd α} [RdFlat R] {sz w T : Nat} (H H' : Heap) {s : Value} {xs : List α} {L : List HProp} : Sub (ownS R sz w T H s xs :: L) (ownS R sz w T H' s xs :: L) := fun h ⟨h1, h2, a, r⟩ => ⟨h1, h2, ownS_flat a, r⟩
end Go.Sx
namespace Go.Sx
open Go Go.X
section
variable {ι : Type} {A : ι → HProp} {l l1 l2 : List ι} {x y : ι} {L : List HProp}
end
section
variable {P : Program} {n : NF} {W0 : GW} {Q : Exit → Act → GW → Prop} {F : Slots} {H : Heap} {L : List HProp} {ops : Array Oper} {rest : List Oper} {q : Bool} {k : List Fr} {y : Code}
end
end Go.Sx
namespace Go.Sx
open Go Go.X
def rVal : Rd Value := fun _ c x => c = [x] ∧ x.oneCell' = true
instance : RdOk rVal 1 := ⟨fun ⟨h, _⟩ => by subst h; rfl, fun ⟨h, ho⟩ => by subst h; simpa using ho, fun _ h => h⟩
instance : RdFlat rVal := ⟨fun h => h⟩
instance : R1 rVal (fun x => x) (fun x => x.oneCell' = true) := ⟨fun h => h⟩
section
variable {P : Program} {n : NF} {W0 : GW} {Q : Exit → Act → GW → Prop} {F : Slots} {H : Heap} {L : List HProp} {ops : Array Oper} {rest : List Oper} {k : List Fr} {ty ty' : TypeId} {pos pos' : String} {aft aft' : Array Edge} {d d' : Tmp} {g g' : Option (Nat × Bool)} {v : Value}
theorem empty_le (H : Heap) : Heap.empty.le H := fun _ _ h => by simp [Heap.empty] at h
theorem ops_lendS {α : Type} {R : Rd α} {sz w T : Nat} {HS : Heap} {xs : List α} {L' : List HProp} (s : Value) [hh : HasS L s α R sz w T HS xs L'] [RdOk R sz] [RdFlat R]
    (h : ∀ D, ownS R sz w T HS s xs D → LD W0 H D → H.le (union H D) → SlB R sz w (union H D) s xs → Ops P n W0 Q F (union H D) L' false ops rest k) : Ops P n W0 Q F H L false ops rest k :=
  ops_lend hh.has fun D hD hd h1 h2 => h D hD hd h1 (ownS_reads (ownS_flat (H' := Heap.empty) hD) (empty_le _) h2)
theorem ex_lendS {c : Code} {α : Type} {R : Rd α} {sz w T : Nat} {HS : Heap} {xs : List α} {L' : List HProp} (s : Value) [hh : HasS L s α R sz w T HS xs L'] [RdOk R sz] [RdFlat R]
    (h : ∀ D, ownS R sz w T HS s xs D → LD W0 H D → H.le (union H D) → SlB R sz w (union H D) s xs → Ex P n W0 Q F (union H D) L' c k) : Ex P n W0 Q F H L c k :=
  ex_lend hh.has fun D hD hd h1 h2 => h D hD hd h1 (ownS_reads (ownS_flat (H' := Heap.empty) hD) (empty_le _) h2)
end
end Go.Sx
namespace Go.Sx
open Go Go.X
instance {P : Program} {x : Operand} {T e : TypeId} {base : Option Addr} {m c : Nat} [hT : TSl P T e] : POp P (.call ⟨.builtin .cap, #[x], #[T]⟩) [.slice base m c] True (.int .i64 c) := ⟨fun _ h => .mk fun a w hF _ => by
  simp only [execOp, resolve]
  simp [invoke, builtin, Builtin.cap_, run_underlying hT.und, hF.opv (opvs1 h), goInt]⟩
section
variable {P : Program} {c x y : Operand}
end
section
variable {P : Program} {n : NF} {W0 : GW} {F : Slots} {H : Heap} {L : List HProp} {K : Value → Heap → List HProp → Prop} {dst : Option Tmp} {ty : TypeId} {pos : String} {aft : Array Edge} {g : Option (Nat × Bool)}
theorem op_zapp {t tn e : TypeId} {sz by_ : Nat} {z : Value} {s x : Operand} {m : Nat} {kd kn : IntKind} [hT : TSl P t e] [hI : TIn P e sz by_ z] [hN : TIt P tn kn] (hs : opv F s = some (.slice none 0 0)) (hx : opv F x = some (.int kd m)) (hm : 0 < m) (hb : m * by_ ≤ 140737488355328) (h63 : m ≤ 140737488355328)
    (hk : ∀ b cap cs, m ≤ cap → cap ≤ 9223372036854775807 → cs.length = cap * sz → K (.slice (some ⟨b, 0, none⟩) m cap) H (row b e cs :: L)) : OpW P n W0 ⟨dst, .call ⟨.builtin .append, #[s, x], #[t, tn]⟩, ty, pos, aft, g⟩ F H L K :=
  .of_run fun {W1} a w hF hS => by
    obtain ⟨i, hi, hsz, hby, hz, hzs, hpos⟩ := hI.ex
    subst hsz; subst hby
    have hr := Go.Lib.run_append_nil_zeros (P := P) (ty := ty) w t tn e i z kd kn hT.und hN.und hi hz m hm hpos (by omega) (by omega)
    have hge := grownCap_ge w m 0 e
    have hcm : grownCap w m 0 e ≤ maxLen := grownCap_le_maxLen w m 0 e (by simp only [maxLen]; omega)
    have hS3 : St W1 H w.drew L := hS.keep (hS.env.of rfl rfl rfl) rfl
    have h4 := hS3.alloc (w' := w.drew.alloc (.cells (Builtin.zeroCells z.cells m ++ Builtin.zeroCells z.cells (grownCap w m 0 e - m)) e)) (hS3.env.of rfl rfl rfl) rfl
    refine ⟨_, H, _, w.drew.alloc (.cells (Builtin.zeroCells z.cells m ++ Builtin.zeroCells z.cells (grownCap w m 0 e - m)) e), ?_, .refl _, hk w.heap.size (grownCap w m 0 e) (Builtin.zeroCells z.cells m ++ Builtin.zeroCells z.cells (grownCap w m 0 e - m)).toList hge hcm ?_, ?_⟩
    · simp only [execOp, resolve]
      simp [invoke, builtin, hF.opv hs, hF.opv hx, hr]
    · simp only [Array.toList_append, List.length_append, Array.length_toList, zeroCells_len, hzs]
      rw [← Nat.add_mul]; congr 1; omega
    · have e2 : ∀ a : Array Value, a.toList.toArray = a := fun a => by simp
      unfold row; rw [e2]; exact h4
end
theorem any_frzR {P : Program} {n : NF} {W0 : GW} {Q : Exit → Act → GW → Prop} {F : Slots} {H H0 : Heap} {L L0 R : List HProp} {m fuel : Nat} {ops : Array Oper} {listed : Array Bool} {k : List Fr} {b : Nat} {T : TypeId} {cs : List Value} (hh : Has L (row b T cs) R) (h : ∀ H', H.le H' → HRow H' b 0 cs → AnyO P n W0 Q F H' H0 R L0 m ops fuel listed k) : AnyO P n W0 Q F H H0 L L0 m ops fuel listed k :=
  ⟨sat_frz hh fun _ hl => (h _ hl row_hrow).run⟩
section
variable {α : Type} {R : Rd α} {sz w T : Nat} {H : Heap} {b cap : Nat} {cs : List Value} {L : List HProp}
theorem own_room (hc : cs.length = cap * sz) (h2 : cap ≤ 9223372036854775807) : Sub (row b T cs :: L) (ownS R sz w T H (.slice (some ⟨b, 0, none⟩) 0 cap) ([] : List α) :: L) :=
  (own_shut (xs := []) (sp := cs) (m := 0) (by simp) (Nat.zero_le _) h2 (by simpa using hc)).trans (ownS_mk (xs := []) rfl (by simp))
end
section
variable {P : Program} {n : NF} {W0 : GW} {Q : Exit → Act → GW → Prop} {F : Slots} {H : Heap} {L : List HProp} {ops : Array Oper} {rest : List Oper} {k : List Fr} {ty : TypeId} {pos : String} {aft : Array Edge} {d : Tmp} {g : Option (Nat × Bool)} {gv : Option (Value × Bool)}
theorem ops_zapp {t tn e : TypeId} {sz by_ : Nat} {z : Value} {s x : Operand} {m : Nat} {kd kn : IntKind} [hT : TSl P t e] [hI : TIn P e sz by_ z] [hN : TIt P tn kn] (hg : gval ops F g = some gv) [hb : GOk gv true] (hv : opvs F [s, x] = some [.slice none 0 0, .int kd m]) (hm : 0 < m) (hb : m * by_ ≤ 140737488355328) (h63 : m ≤ 140737488355328)
    (hk : ∀ b cap cs, m ≤ cap → cap ≤ 9223372036854775807 → cs.length = cap * sz → Ops P n W0 Q ((d, .slice (some ⟨b, 0, none⟩) m cap) :: F) H (row b e cs :: L) false ops rest k) (hd : Nat.blt d n = true := by rfl) : Ops P n W0 Q F H L false ops (⟨some d, .call ⟨.builtin .append, #[s, x], #[t, tn]⟩, ty, pos, aft, g⟩ :: rest) k :=
  ops_w hg hd (op_zapp (opvs2 hv).1 (opvs2 hv).2 hm hb h63 hk)
end
end Go.Sx
namespace Go.Sx
open Go Go.X
end Go.Sx
namespace Go.Sx
open Go Go.X
section
variable {P : Program} {n : NF} {W0 : GW} {Q : Exit → Act → GW → Prop} {F : Slots} {H H0 : Heap} {L L0 R : List HProp} {ops : Array Oper} {k : List Fr} {op : Op} {ty : TypeId} {pos : String} {aft : Array Edge} {d : Tmp} {g : Option (Nat × Bool)} {gv : Option (Value × Bool)} {v : Value} {m fuel : Nat} {listed : Array Bool} {vs : List Value}
theorem gny_ldHo (i o : Nat) {x : Operand} {t : TypeId} {b off : Nat} {cs : List Value} [TAgg P t false] (hi : ops[i]? = some ⟨some d, .load t x, ty, pos, aft, g⟩) (hg : gval ops F g = some gv) [hb : GOk gv true] (hr : HRow H0 b off cs) (hx : opv F x = some (.pointer (some ⟨b, off + o, none⟩))) (hc : cs[o]? = some v) (h : AnyO P n W0 Q ((d, v) :: F) H H0 L L0 m ops fuel (listed.setIfInBounds i true) k)
    (hok : takeOk ops m listed i = true := by decide +kernel)
    (hl : H0.le H := by first | exact Go.Sx.Heap.le.refl _ | assumption | ((try simp only [Go.Sx.le_self] at *); (repeat (first | exact Go.Sx.Heap.le.refl _ | assumption | refine Go.Sx.Heap.le.trans ?_ ‹Go.Sx.Heap.le _ _›)))) (hsub : Sub L L0 := by (repeat (first | exact Go.Sx.Sub.refl _ | exact Go.Sx.Sub.nil _ | (apply Go.Sx.sub_pick; (repeat (first | exact Go.Sx.Has.here | apply Go.Sx.Has.there)); skip) | apply Go.Sx.Sub.drop))) (hd : Nat.blt d n = true := by rfl) : AnyO P n W0 Q F H H0 L L0 m ops (fuel + 1) listed k :=
  gny_pure i hi hg (op_loadH hx (hrow_cell hr o rfl hc)) h hok hl hsub hd
theorem any_n (i : Nat) (hi : ops[i]? = some ⟨none, op, ty, pos, aft, none⟩) (h : OpW P n W0 ⟨none, op, ty, pos, aft, none⟩ F H L (fun v H' L' => H0.le H' ∧ Sub L' L0 ∧ AnyO P n W0 Q F H' H0 L' L0 m ops fuel (listed.setIfInBounds i true) k))
    (hr : Region.ready .any ops listed = [i] := by decide +kernel) : AnyO P n W0 Q F H H0 L L0 m ops (fuel + 1) listed k :=
  ⟨any_one hr (at_none hi (h.mono fun v H' L' _ ⟨a, b, c⟩ => ⟨a, b, c.run⟩))⟩
theorem any_sta (i : Nat) {x y : Operand} {t : TypeId} {b off T m' : Nat} {cs us cs' : List Value} [TSz P t m'] (hi : ops[i]? = some ⟨none, .store t x y, ty, pos, aft, none⟩) (hv : opvs F [x, y] = some [.pointer (some ⟨b, off, none⟩), v]) [h : HasRow L b T cs R] [hu : CellsI v us] (hl : us.length = m') (h1 : us.all (·.oneCell') = true) (hle : off + us.length ≤ cs.length) (hcs : cs.take off ++ us ++ cs.drop (off + us.length) = cs')
    (hk : Sub (row b T cs' :: R) L0 ∧ AnyO P n W0 Q F H H0 (row b T cs' :: R) L0 m ops fuel (listed.setIfInBounds i true) k)
    (hl0 : H0.le H := by first | exact Go.Sx.Heap.le.refl _ | assumption | ((try simp only [Go.Sx.le_self] at *); (repeat (first | exact Go.Sx.Heap.le.refl _ | assumption | refine Go.Sx.Heap.le.trans ?_ ‹Go.Sx.Heap.le _ _›)))) (hr : Region.ready .any ops listed = [i] := by decide +kernel) : AnyO P n W0 Q F H H0 L L0 m ops (fuel + 1) listed k := by
  subst hcs
  exact any_n i hi (op_storeAt (opvs2 hv).1 (opvs2 hv).2 hu.h hl h1 h.has hle ⟨hl0, hk.1, hk.2⟩) hr
theorem gny_alloc (i : Nat) {T : TypeId} {us : List Value} [TZL P T us] (hi : ops[i]? = some ⟨some d, .alloc T, ty, pos, aft, g⟩) (hg : gval ops F g = some gv) [hb : GOk gv true] (hk : ∀ b, H b = none → AnyO P n W0 Q ((d, .pointer (some ⟨b, 0, none⟩)) :: F) H H0 (row b T us :: L) L0 m ops fuel (listed.setIfInBounds i true) k)
    (hl : H0.le H := by first | exact Go.Sx.Heap.le.refl _ | assumption | ((try simp only [Go.Sx.le_self] at *); (repeat (first | exact Go.Sx.Heap.le.refl _ | assumption | refine Go.Sx.Heap.le.trans ?_ ‹Go.Sx.Heap.le _ _›)))) (hsub : Sub L L0 := by (repeat (first | exact Go.Sx.Sub.refl _ | exact Go.Sx.Sub.nil _ | (apply Go.Sx.sub_pick; (repeat (first | exact Go.Sx.Has.here | apply Go.Sx.Has.there)); skip) | apply Go.Sx.Sub.drop)))
    (hr : Region.ready .any ops listed = [i] := by decide +kernel) (hd : Nat.blt d n = true := by rfl) : AnyO P n W0 Q F H H0 L L0 m ops (fuel + 1) listed k :=
  gny_w i hi hg (op_alloc fun b hb => ⟨hl, Sub.drop hsub, hk b hb⟩) hr hd
theorem any_ca (i j : Nat) {f : FuncId} {l : List Operand} {ts : Array TypeId} {A R : List HProp} {Post : Value → Heap → List HProp → Prop} {T : TypeId} {us : List Value} {d' : Tmp} {ty' : TypeId} {pos' : String} {aft' : Array Edge} [TFn P f] [TZL P T us]
    (hi : ops[i]? = some ⟨some d, .call ⟨.value (.func f), l.toArray, ts⟩, ty, pos, aft, none⟩) (hj : ops[j]? = some ⟨some d', .alloc T, ty', pos', aft', none⟩)
    (ha : opvs F l = some vs) (hs : Ct P f vs.toArray W0 H A Post)
    (hk : ∀ r H' B, H.le H' → Post r H' B → Sub (B ++ R) L0 ∧ AnyO P n W0 Q ((d, r) :: F) H' H0 (B ++ R) L0 m ops fuel (listed.setIfInBounds i true) k)
    (hk2 : ∀ b, H b = none → AnyO P n W0 Q ((d', .pointer (some ⟨b, 0, none⟩)) :: F) H H0 (row b T us :: L) L0 m ops fuel (listed.setIfInBounds j true) k)
    (ht : Take L A R := by repeat (first | exact Go.Sx.Take.nil | (apply Go.Sx.Take.cons; focus (repeat (first | exact Go.Sx.Has.here | apply Go.Sx.Has.there)))))
    (hl : H0.le H := by first | exact Go.Sx.Heap.le.refl _ | assumption | ((try simp only [Go.Sx.le_self] at *); (repeat (first | exact Go.Sx.Heap.le.refl _ | assumption | refine Go.Sx.Heap.le.trans ?_ ‹Go.Sx.Heap.le _ _›)))) (hsub : Sub L L0 := by (repeat (first | exact Go.Sx.Sub.refl _ | exact Go.Sx.Sub.nil _ | (apply Go.Sx.sub_pick; (repeat (first | exact Go.Sx.Has.here | apply Go.Sx.Has.there)); skip) | apply Go.Sx.Sub.drop)))
    (hr : Region.ready .any ops listed = [i, j] := by decide +kernel) (hd : Nat.blt d n = true := by rfl) (hd' : Nat.blt d' n = true := by rfl) : AnyO P n W0 Q F H H0 L L0 m ops (fuel + 1) listed k :=
  any_w2 i j hi hj (op_call (opvs_args ha) hs ht fun r H' B h1 h2 => ⟨hl.trans h1, (hk r H' B h1 h2).1, (hk r H' B h1 h2).2⟩) (op_alloc fun b hb => ⟨hl, Sub.drop hsub, hk2 b hb⟩) hr hd hd'
theorem ex_cutk {x y : Code} {σ : Type} (I : σ → Prop) (mF : σ → Slots) (mH : σ → Heap) (mL : σ → List HProp)
    (h : ∀ K : Act → GW → Prop, (∀ s, I s → Sat n W0 (mF s) (mH s) (mL s) K) → Ex P n W0 Q F H L x (.cut K :: k)) (h2 : ∀ s, I s → Ex P n W0 Q (mF s) (mH s) (mL s) y k) : Ex P n W0 Q F H L x (.seq y :: k) :=
  ⟨(h (y.wpV P (Kx P Q k)) fun s hs => (h2 s hs).run).run⟩
end
end Go.Sx
namespace Go.Sx
open Go Go.X
section
variable {P : Program} {n : NF} {W0 : GW} {F : Slots} {H : Heap} {L : List HProp} {K : Value → Heap → List HProp → Prop} {dst : Option Tmp} {ty : TypeId} {pos : String} {aft : Array Edge} {g : Option (Nat × Bool)}
theorem op_mkN {t e : TypeId} {sz by_ : Nat} {z : Value} {l c : Operand} {m : Nat} {kl kc : IntKind} {cs : List Value} [hT : TSl P t e] [hI : TIn P e sz by_ z] (hl : opv F l = some (.int kl m)) (hc : opv F c = some (.int kc m)) (hcs : (madeCells z.cells (m * sz)).toList = cs) (hb : m * by_ ≤ 140737488355328) (h63 : m ≤ 140737488355328)
    (hk : ∀ b, H b = none → K (.slice (some ⟨b, 0, none⟩) m m) H (row b e cs :: L)) : OpW P n W0 ⟨dst, .makeSlice t l c, ty, pos, aft, g⟩ F H L K :=
  .of_run fun {W1} a w hF hS => by
    obtain ⟨i, hi, hsz, hby, hz, hzs, hpos⟩ := hI.ex
    subst hsz; subst hby; subst hcs
    have hb' : (i.bytes : Int) * (m : Int) ≤ 281474976710656 := by
      have h : ((m * i.bytes : Nat) : Int) ≤ 281474976710656 := by omega
      rw [Nat.mul_comm] at h
      rwa [Int.natCast_mul] at h
    have hr := run_make (P := P) w t e i z hT.und hi hz kl kc m m (by omega) (Int.le_refl _) hb' (by omega)
    simp only [Int.toNat_natCast] at hr
    have h4 : St W1 H (w.alloc (.cells (madeCells z.cells (m * i.size)) e)) (row w.heap.size e (madeCells z.cells (m * i.size)).toList :: L) := by
      have h5 := hS.alloc (w' := w.alloc (.cells (madeCells z.cells (m * i.size)) e)) (hS.env.of rfl rfl rfl) rfl
      unfold row; rw [show (madeCells z.cells (m * i.size)).toList.toArray = madeCells z.cells (m * i.size) by simp]; exact h5
    refine ⟨_, H, _, _, ?_, .refl _, hk _ h4.ptRead.2, h4⟩
    simp only [execOp]
    rw [hF.opv hl, hF.opv hc]
    simp [hr]
end
end Go.Sx
namespace Go.Sx
open Go Go.X
section
variable {P : Program} {n : NF} {W0 : GW} {Q : Exit → Act → GW → Prop} {F : Slots} {H H0 : Heap} {L L0 R : List HProp} {ops : Array Oper} {k : List Fr} {op : Op} {ty ty' ty2 : TypeId} {pos pos' pos2 : String} {aft aft' aft2 : Array Edge} {d d' d2 : Tmp} {m fuel : Nat} {listed : Array Bool} {vs : List Value} {T T2 : TypeId} {us us2 : List Value}
theorem gny_ext (i : Nat) {x : Operand} {j : Nat} {vs : Array Value} {v : Value} {g : Option (Nat × Bool)} {gv : Option (Value × Bool)} (hi : ops[i]? = some ⟨some d, .extract x j, ty, pos, aft, g⟩) (hg : gval ops F g = some gv) [hb : GOk gv true] (hx : opv F x = some (.tuple vs)) (hv : vs.toList[j]? = some v) (h : AnyO P n W0 Q ((d, v) :: F) H H0 L L0 m ops fuel (listed.setIfInBounds i true) k)
    (hok : takeOk ops m listed i = true := by decide +kernel)
    (hl : H0.le H := by first | exact Go.Sx.Heap.le.refl _ | assumption | ((try simp only [Go.Sx.le_self] at *); (repeat (first | exact Go.Sx.Heap.le.refl _ | assumption | refine Go.Sx.Heap.le.trans ?_ ‹Go.Sx.Heap.le _ _›)))) (hsub : Sub L L0 := by (repeat (first | exact Go.Sx.Sub.refl _ | exact Go.Sx.Sub.nil _ | (apply Go.Sx.sub_pick; (repeat (first | exact Go.Sx.Has.here | apply Go.Sx.Has.there)); skip) | apply Go.Sx.Sub.drop))) (hd : Nat.blt d n = true := by rfl) : AnyO P n W0 Q F H H0 L L0 m ops (fuel + 1) listed k :=
  gny_pure i hi hg (op_extract hx (by simpa using hv)) h hok hl hsub hd
end
end Go.Sx
namespace Go.Sx
open Go Go.X
theorem fits_wf {x : Int} (h : (Lit.int .i64 x).wf = true) : fits x := by
  simp only [Lit.wf, Bool.and_eq_true, decide_eq_true_eq] at h
  exact ⟨by simpa [IntKind.min, IntKind.signed, IntKind.bits] using h.1, by simpa [IntKind.max, IntKind.signed, IntKind.bits] using h.2⟩
end Go.Sx
namespace Go.Sx
open Go Go.X Go.Conc
theorem stepG_scope {P : Program} {main : Bool} {b : Frame} {a : Act} {k : List Item} {cs : List Frame} {w : World} {c : Code} : stepG P main (G (b.at a (.code (.scope c) :: k)) cs) w = .go (G (b.at a (.code c :: .inScope c :: k)) cs) w #[] := by simp [G, stepG, stepG.exec, Frame.at]
theorem stepG_inScope {P : Program} {main : Bool} {b : Frame} {a : Act} {k : List Item} {cs : List Frame} {w : World} {c : Code} : stepG P main (G (b.at a (.inScope c :: k)) cs) w = .go (G (b.at a k) cs) w #[] := by simp [G, stepG, stepG.exec, Frame.at]
def noGotoV (Q : Exit → Act → GW → Prop) : Exit → Act → GW → Prop
  | .goto _ => fun _ _ => False
  | e => Q e
theorem wpV_scope {P : Program} {Q : Exit → Act → GW → Prop} {c : Code} {a : Act} {w : GW} (h : c.wpV P (noGotoV Q) a w) : (Code.scope c).wpV P Q a w := fun Wr h1 b k cs hb hc =>
  .ctl rfl (fun _ _ => stepG_scope) (h Wr h1 b (.inScope c :: k) cs hb fun e a' x' hq => by
    cases e with
    | normal => exact .ctl rfl (fun _ _ => stepG_inScope) (hc .normal a' x' hq)
    | exit id =>
      obtain ⟨k', h1, h2⟩ := hc (.exit id) a' x' hq
      exact ⟨k', by simp [exitTo, h1], h2⟩
    | goto l => obtain ⟨_, _, hf⟩ := hq; exact hf.elim
    | ret => exact hc .ret a' x' hq
    | panic ch => exact hc (.panic ch) a' x' hq
    | outgrown => exact hc .outgrown a' x' hq)
section
variable {P : Program} {n : NF} {W0 : GW} {Q : Exit → Act → GW → Prop} {F : Slots} {H : Heap} {L : List HProp} {k k' : List Fr} {c : Code}
theorem ex_label {l : Nat} (h : Out P n W0 Q F H L .normal k) : Ex P n W0 Q F H L (.label l) k := ⟨fun a w hF hS => wpV_label (h.run a w hF hS)⟩
theorem ex_scope (h : Ex P n W0 (noGotoV (Kx P Q k)) F H L c []) : Ex P n W0 Q F H L (.scope c) k := ⟨fun a w hF hS => wpV_scope (h.run a w hF hS)⟩
theorem out_scope (h : Out P n W0 Q F H L .normal k) : Out P n W0 (noGotoV (Kx P Q k)) F H L .normal [] := ⟨fun a w hF hS => h.run a w hF hS⟩
theorem kx_ret : ∀ (k : List Fr) {a : Act} {w : GW}, Q .ret a w → Kx P Q k .ret a w
  | [], _, _, h => h
  | .seq _ :: k, _, _, h => kx_ret k h
  | .blk _ :: k, _, _, h => kx_ret k h
  | .cut _ :: k, _, _, h => kx_ret k h
theorem out_scope_ret (h : Out P n W0 Q F H L .ret k) : Out P n W0 (noGotoV (Kx P Q k)) F H L .ret k' :=
  ⟨fun a w hF hS => kx_ret k' (h.run a w hF hS)⟩
end
section
variable {P : Program} {n : NF} {W0 : GW} {Q : Exit → Act → GW → Prop} {F : Slots} {H H0 : Heap} {L R : List HProp} {k : List Fr} {c : Code} {ops : Array Oper} {rest : List Oper} {κ ν : Type} {ek : κ → Value} {RV : Rd ν} {ag : Bool} {ms : List (κ × ν)} {b : Nat}
theorem ops_frzMap {sz : Nat} [RdOk RV sz] (hh : Has L (mapO ek RV ag H0 b ms) R) (hl0 : H0.le H) (h : ∀ H', H.le H' → mapH ek RV ag H' b ms → Ops P n W0 Q F H' R false ops rest k) : Ops P n W0 Q F H L false ops rest k := ⟨sat_frzM hh hl0 fun H' hl hm => (h H' hl hm).run⟩
end
end Go.Sx
namespace Go.Sx
open Go Go.X Go.ChangeShapes Go.WideShapes Go.ChangeAt Go.RowKit
section
variable {P : Program} {n : NF} {W0 : GW} {Q : Exit → Act → GW → Prop} {F : Slots} {H : Heap} {L : List HProp} {k : List Fr} {x y : Code}
end
end Go.Sx
