/- A loop over a map that is owned: range, next, entry. No program in sight. -/
import Derived.Test.YtpphdbnifbjfmaaGreatDoorJKD
import Derived.Maps.RangeRun
set_option linter.unusedVariables false
set_option linter.unusedSimpArgs false
namespace Go.Sx
open Go Go.Proofs
section
variable {P : Program} {n : Nat} {W0 : World} {Q : Exit → Act → World → Prop} {F : Slots} {H H0 H1 : Heap} {L L0 R : List HProp} {ops : Array Oper} {rest : List Oper} {k : List Fr} {ty : TypeId} {pos : String} {aft : Array Edge} {κ ν : Type} [DecidableEq κ] {ek : κ → Value} {RV : Rd ν} {sz : Nat} [RdOk RV sz] {ag : Bool} {t tk kt et : TypeId} {b : Nat} {ky : κ} {ms : List (κ × ν)} {val : ν → Value} {z : ν} {d : Tmp} {g : Option (Nat × Bool)} {gv : Option (Value × Bool)} {m fuel : Nat} {listed : Array Bool}
theorem op_lkNil {x y : Operand} {kv z : Value} {dst : Option Tmp} {g : Option (Nat × Bool)} [hT : TMap P t kt et] [hV : KeyV ek kv ky] [hK : TKey P kt ek] [hZ : TZ P et z] (hv : opvs F [x, y] = some [.map none, kv]) :
    OpP P n W0 ⟨dst, .lookup t x y false, ty, pos, aft, g⟩ F H L z := op_lk0 (κ := κ) (ek := ek) (k := ky) (kt := kt) (opvs2 hv).1 ((opvs2 hv).2.trans (congrArg some hV.h))
theorem gny_lkNil (i : Nat) {m fuel : Nat} {listed : Array Bool} {d : Tmp} {g : Option (Nat × Bool)} {gv : Option (Value × Bool)} {x y : Operand} {kv z : Value} [hT : TMap P t kt et] [hV : KeyV ek kv ky] [hK : TKey P kt ek] [hZ : TZ P et z] (hi : ops[i]? = some ⟨some d, .lookup t x y false, ty, pos, aft, g⟩) (hg : gval ops F g = some gv) [hb : GOk gv true] (hv : opvs F [x, y] = some [.map none, kv])
    (h : AnyO P n W0 Q ((d, z) :: F) H H0 L L0 m ops fuel (listed.setIfInBounds i true) k) (hok : takeOk ops m listed i = true := by decide +kernel) (hQ : ∀ v c a w, Kx P Q k (.panic c) (a.put (some d) v) w → Kx P Q k (.panic c) a w := by exact fun _ _ _ _ h => h)
    (hl : H0.le H := by first | exact Go.Sx.Heap.le.refl _ | assumption | ((try simp only [Go.Sx.le_self] at *); (repeat (first | exact Go.Sx.Heap.le.refl _ | assumption | refine Go.Sx.Heap.le.trans ?_ ‹Go.Sx.Heap.le _ _›)))) (hsub : Sub L L0 := by (repeat (first | exact Go.Sx.Sub.refl _ | exact Go.Sx.Sub.nil _ | (apply Go.Sx.sub_pick; (repeat (first | exact Go.Sx.Has.here | apply Go.Sx.Has.there)); skip) | apply Go.Sx.Sub.drop))) (hd : Nat.blt d n = true := by rfl) : AnyO P n W0 Q F H H0 L L0 m ops (fuel + 1) listed k :=
  gny_pure i hi hg (op_lkNil (κ := κ) (ek := ek) (ky := ky) (kt := kt) hv) h hok (hQ _) hl hsub hd
end
end Go.Sx
set_option linter.unusedVariables false
set_option linter.unusedSimpArgs false
namespace Go.Sx
open Go Go.Proofs
theorem wpP_true {P : Program} {ops : Array Oper} {Q : Exit → Act → World → Prop} {m : Nat} : ∀ (fuel : Nat) (listed : Array Bool) (a : Act) (w : World), wpAny P .any ops Q fuel listed a w → wpP P ops Q (fun _ => True) m fuel listed a w
  | 0, _, _, _, h => h
  | fuel + 1, listed, a, w, h => by
    unfold wpP
    split
    · exact h
    · exact ⟨h.1, fun i hi => wpOp_mono (fun a' w' h' => ⟨trivial, wpP_true fuel _ a' w' h'⟩) (h.2 i hi)⟩
section
variable {P : Program} {n : Nat} {W0 : World} {Q : Exit → Act → World → Prop} {F : Slots} {H : Heap} {L : List HProp} {k : List Fr} {ty : TypeId} {pos : String} {aft : Array Edge} {d : Tmp} {v : Value} {x : Operand}
end
section
variable {P : Program} {n : Nat} {W0 : World} {Q : Exit → Act → World → Prop} {F : Slots} {H H0 : Heap} {L L0 : List HProp} {m fuel : Nat} {ops : Array Oper} {listed : Array Bool} {k : List Fr} {ty : TypeId} {pos : String} {aft : Array Edge} {d : Tmp} {v : Value} {g : Option (Nat × Bool)} {gv : Option (Value × Bool)}
theorem gny_ixB (i : Nat) {t T : TypeId} {x y : Operand} {b len cap sz j : Nat} {kd : IntKind} {ii : Int} [TSl P t T] [TSz P T sz] (hi : ops[i]? = some ⟨some d, .indexAddr t x y, ty, pos, aft, g⟩) (hg : gval ops F g = some gv) [hb : GOk gv true] (hv : opvs F [x, y] = some [.slice (some ⟨b, 0, none⟩) len cap, .int kd ii]) [hin : NatOf ii j] (hj : j < len)
    (h : AnyO P n W0 Q ((d, .pointer (some ⟨b, 0 + (j : Int).toNat * sz, none⟩)) :: F) H H0 L L0 m ops fuel (listed.setIfInBounds i true) k) (hok : takeOk ops m listed i = true := by decide +kernel) (hQ : ∀ v c a w, Kx P Q k (.panic c) (a.put (some d) v) w → Kx P Q k (.panic c) a w := by exact fun _ _ _ _ h => h)
    (hl : H0.le H := by first | exact Go.Sx.Heap.le.refl _ | assumption | ((try simp only [Go.Sx.le_self] at *); (repeat (first | exact Go.Sx.Heap.le.refl _ | assumption | refine Go.Sx.Heap.le.trans ?_ ‹Go.Sx.Heap.le _ _›)))) (hsub : Sub L L0 := by (repeat (first | exact Go.Sx.Sub.refl _ | exact Go.Sx.Sub.nil _ | (apply Go.Sx.sub_pick; (repeat (first | exact Go.Sx.Has.here | apply Go.Sx.Has.there)); skip) | apply Go.Sx.Sub.drop))) (hd : Nat.blt d n = true := by rfl) : AnyO P n W0 Q F H H0 L L0 m ops (fuel + 1) listed k := by
  obtain ⟨rfl⟩ := hin
  exact gny_pure i hi hg (op_indexAddr (i := (j : Int)) (opvs2 hv).1 (opvs2 hv).2 (by omega) (by omega)) h hok (hQ _) hl hsub hd
end
section
variable {P : Program} {n : Nat} {W0 : World} {Q : Exit → Act → World → Prop} {F : Slots} {H H0 : Heap} {L L0 : List HProp} {m fuel : Nat} {ops : Array Oper} {listed : Array Bool} {k : List Fr} {ty : TypeId} {pos : String} {aft : Array Edge} {d : Tmp} {v : Value} {vs us : List Value}
theorem at_call (i : Nat) {f : FuncId} {l : List Operand} {ts : Array TypeId} {A R : List HProp} {Post : Value → Heap → List HProp → Prop} [TFn P f] (hi : ops[i]? = some ⟨some d, .call ⟨.value (.func f), l.toArray, ts⟩, ty, pos, aft, none⟩) (ha : opvs F l = some vs) (hs : Ct P f vs.toArray W0 H A Post)
    (hk : ∀ r H' B, H.le H' → Post r H' B → Sub (B ++ R) L0 ∧ AnyO P n W0 Q ((d, r) :: F) H' H0 (B ++ R) L0 m ops fuel (listed.setIfInBounds i true) k) (ht : Take L A R := by repeat (first | exact Go.Sx.Take.nil | (apply Go.Sx.Take.cons; focus (repeat (first | exact Go.Sx.Has.here | apply Go.Sx.Has.there)))))
    (hl : H0.le H := by first | exact Go.Sx.Heap.le.refl _ | assumption | ((try simp only [Go.Sx.le_self] at *); (repeat (first | exact Go.Sx.Heap.le.refl _ | assumption | refine Go.Sx.Heap.le.trans ?_ ‹Go.Sx.Heap.le _ _›)))) (hd : Nat.blt d n = true := by rfl) : AnyAt P n W0 F H H0 L L0 m ops (Kx P Q k) fuel listed i :=
  at_w i hi (op_call (opvs_args ha) hs ht fun r H' B h1 h2 => ⟨hl.trans h1, (hk r H' B h1 h2).1, (hk r H' B h1 h2).2⟩) hd
end
end Go.Sx
set_option linter.unusedVariables false
set_option linter.unusedSimpArgs false
namespace Go.Sx
open Go Go.Proofs
class ZOp (P : Program) (op : Op) (vs : List Value) (v : outParam Value) : Prop where
  run : ∀ {n : Nat} {F : Slots} {a : Act} {dst : Option Tmp} {ty : TypeId} {pos : String} {aft : Array Edge} {g : Option (Nat × Bool)}, opvs F (opsOf op) = some vs → FrOk n a F → ∀ w, (execOp a.eval ⟨dst, op, ty, pos, aft, g⟩).run P w = .ok (.value v) w
section
variable {P : Program} {x : Operand} {v : Value}
instance : ZOp P (.move x) [v] v := ⟨fun h hF w => by simp [execOp, hF.opv (opvs1 h)]⟩
end
section
variable {P : Program} {n : Nat} {W0 : World} {Q : Exit → Act → World → Prop} {F : Slots} {H : Heap} {L : List HProp} {k : List Fr} {ty : TypeId} {pos : String} {aft : Array Edge} {d : Tmp} {v : Value} {op : Op} {ops : Array Oper} {fuel : Nat} {listed : Array Bool}
structure AnyZ (P : Program) (n : Nat) (W0 : World) (Q : Exit → Act → World → Prop) (F : Slots) (H : Heap) (L : List HProp) (ops : Array Oper) (fuel : Nat) (listed : Array Bool) (k : List Fr) : Prop where
  run : Sat n W0 F H L (wpAny P .any ops (Kx P Q k) fuel listed)
theorem ex_z [hm : TMix P] {id : Nat} {l : List Oper} (fuel : Nat) (h : AnyZ P n W0 Q F H L l.toArray fuel (Array.replicate l.length false) k) (hlen : l.length = fuel := by rfl) : Ex P n W0 Q F H L (.region id l.toArray true) k :=
  ⟨fun a w hF hS => wp_region_any hm.h (by
    have := h.run a w.drew hF (hS.keep (hS.env.of rfl rfl rfl) rfl)
    rw [← hlen] at this
    simpa using this)⟩
theorem z_any (m : Nat) (L0 : List HProp) (h : AnyO P n W0 Q F H H L L0 m ops fuel listed k) : AnyZ P n W0 Q F H L ops fuel listed k := ⟨fun a w hF hS => wpP_any _ _ _ _ (h.run a w hF hS)⟩
theorem z_take (i : Nat) {vs : List Value} (hi : ops[i]? = some ⟨some d, op, ty, pos, aft, none⟩) (hv : opvs F (opsOf op) = some vs) [hz : ZOp P op vs v] (h : AnyZ P n W0 Q ((d, v) :: F) H L ops fuel (listed.setIfInBounds i true) k) (hok : takeOk ops ops.size listed i = true := by decide +kernel)
    (hQ : ∀ v c a w, Kx P Q k (.panic c) (a.put (some d) v) w → Kx P Q k (.panic c) a w := by exact fun _ _ _ _ h => h) (hd : Nat.blt d n = true := by rfl) : AnyZ P n W0 Q F H L ops (fuel + 1) listed k := ⟨fun a w hF hS => by
  refine wpP_any _ _ _ _ (S := fun _ => True) (m := ops.size) ?_
  have g2 := wpP_true (m := ops.size) _ _ _ _ (h.run _ w (hF.put hd v) hS)
  simp only [takeOk, Bool.and_eq_true, Nat.blt_eq] at hok
  obtain ⟨⟨⟨⟨⟨h1, h2⟩, h3⟩, h4⟩, h5⟩, h6⟩ := hok
  exact wpP_first (P := P) (S := fun _ => True) hi h5 (Region.noSelect_spec h1) (hQ v) fuel _ a w h4 h6 (Region.free_spec hi h2) (by simpa using h3) (.inl ⟨by simp [Region.wanted], fun w' _ => hz.run hv hF w'⟩) trivial g2⟩
end
end Go.Sx
set_option linter.unusedVariables false
set_option linter.unusedSimpArgs false
namespace Go.Sx
open Go Go.Proofs
section
variable {κ ν : Type} [DecidableEq κ]
def mapIt (ek : κ → Value) (R : Rd ν) (ag : Bool) (H : Heap) (b r : Nat) (m : List (κ × ν)) (k : Nat) : HProp := fun h =>
  ∃ (es : Array MapEntry) (clock since c0 : Nat) (seen : Array Nat), MapOk ek R ag H es clock m ∧ ((∀ x ∈ es.toList, x.born < since) ∧ since ≤ c0 ∧ since ≤ clock ∧ (leftOf es seen).size ≤ k) ∧ big [pt b (.map es clock), pt r (.mapIter (some b) since seen c0)] h
def mapAt (ek : κ → Value) (R : Rd ν) (ag : Bool) (H : Heap) (b r : Nat) (m : List (κ × ν)) (k : Nat) (q : κ × ν) (cs : List Value) : HProp := fun h =>
  ∃ (es : Array MapEntry) (clock since : Nat) (seen : Array Nat) (e : MapEntry), MapOk ek R ag H es clock m ∧ ((∀ x ∈ es.toList, x.born < since) ∧ since ≤ clock ∧ (leftOf es (seen.push e.born)).size ≤ k ∧ e ∈ es.toList ∧ e.key = ek q.1 ∧ e.val = ofC ag cs) ∧ big [pt b (.map es clock), pt r (.mapIter (some b) since (seen.push e.born) clock)] h
omit [DecidableEq κ] in
theorem mapAt_it {ek : κ → Value} {R : Rd ν} {ag : Bool} {H : Heap} {b r k : Nat} {m : List (κ × ν)} {q : κ × ν} {cs : List Value} {L : List HProp} : Sub (mapAt ek R ag H b r m k q cs :: L) (mapIt ek R ag H b r m k :: L) := fun h ⟨h1, h2, ⟨es, c, s, seen, e, a, ⟨x1, x2, x3, _⟩, hb⟩, rest⟩ => ⟨h1, h2, ⟨es, c, s, c, _, a, ⟨x1, x2, x2, x3⟩, hb⟩, rest⟩
omit [DecidableEq κ] in
theorem EL.mem {ek : κ → Value} {R : Rd ν} {ag : Bool} {H : Heap} {e : MapEntry} : ∀ {es : List MapEntry} {m : List (κ × ν)}, EL ek R ag H es m → e ∈ es → ∃ q ∈ m, ∃ cs, e.key = ek q.1 ∧ e.val = ofC ag cs ∧ R H cs q.2
  | [], [], _, he => by cases he
  | e1 :: es, (k, v) :: m, ⟨a, ⟨cs, b, c⟩, d⟩, he => by
    rcases List.mem_cons.1 he with rfl | he
    · exact ⟨(k, v), List.mem_cons_self .., cs, a, b, c⟩
    · obtain ⟨q, hq, r⟩ := EL.mem d he
      exact ⟨q, List.mem_cons_of_mem _ hq, r⟩
  | [], _ :: _, h, _ => h.elim
  | _ :: _, [], h, _ => h.elim
end
section
variable {κ ν : Type} [DecidableEq κ] {P : Program} {n : Nat} {W0 : World} {F : Slots} {H H0 : Heap} {L : List HProp} {K : Value → Heap → List HProp → Prop} {dst : Option Tmp} {ty : TypeId} {pos : String} {aft : Array Edge} {g : Option (Nat × Bool)}
variable {ek : κ → Value} {R : Rd ν} {ag : Bool} {t kt et : TypeId} {m : List (κ × ν)} {b r j : Nat} {q : κ × ν} {cs : List Value}
theorem op_mrange {x : Operand} {Rest : List HProp} [hT : TMap P t kt et] (hx : opv F x = some (.map (some b))) (hh : Has L (mapO ek R ag H0 b m) Rest)
    (hk : ∀ r, K (.pointer (some ⟨r, 0, none⟩)) H (mapIt ek R ag H0 b r m m.length :: Rest)) : OpW P n W0 ⟨dst, .range t x, ty, pos, aft, g⟩ F H L K := .of_run fun a w hF hS => by
  obtain ⟨es, c, a', hb, hS'⟩ := (hS.sub hh.to).mapGet
  have hs : St W0 H (w.alloc (.mapIter (some b) c #[] c)) (pt w.heap.size (.mapIter (some b) c #[] c) :: pt b (.map es c) :: Rest) := hS'.alloc (hS'.env.of rfl rfl rfl) rfl
  have hs2 := hs.sub (fun h hb => big_swap hb)
  have hrun := run_range_map (P := P) w t kt et b es c hT.und hb
  refine ⟨_, H, _, _, by simp [execOp, hF.opv hx, hrun], .refl _, hk w.heap.size, hs2.sub (sub_fold (B := [pt b (.map es c), pt w.heap.size (.mapIter (some b) c #[] c)]) (Sub.refl _) fun h hb => ⟨es, c, c, c, #[], a', ⟨a'.lt, Nat.le_refl _, Nat.le_refl _, ?_⟩, hb⟩)⟩
  have hl : es.toList.length = m.length := a'.el.len
  have : (leftOf es #[]).size ≤ es.size := by unfold leftOf; exact Array.size_filter_le ..
  simp at hl
  omega
omit [DecidableEq κ] in
theorem op_mnext {x : Operand} {Rest : List HProp} (hx : opv F x = some (.pointer (some ⟨r, 0, none⟩))) (hh : Has L (mapIt ek R ag H0 b r m j) Rest)
    (h0 : K (.tuple #[.bool false]) H (mapIt ek R ag H0 b r m j :: Rest)) (h1 : ∀ q cs, 0 < j → q ∈ m → R H0 cs q.2 → K (.tuple #[.bool true, ek q.1, ofC ag cs]) H (mapAt ek R ag H0 b r m (j - 1) q cs :: Rest)) : OpW P n W0 ⟨dst, .next x false, ty, pos, aft, g⟩ F H L K := .of_run fun a w hF hS => by
  have hS0 := hS.sub hh.to
  obtain ⟨hA, hR, ⟨es, c, since, c0, seen, a', ⟨x1, x2, hcl, x3⟩, hbig⟩, rr, d, dA, dR, lA, lR⟩ := hS0.parts
  have hS1 : St W0 H w (mapIt ek R ag H0 b r m j :: Rest) := hS0
  have hS2 : St W0 H w (pt b (.map es c) :: pt r (.mapIter (some b) since seen c0) :: Rest) := by
    have := St.of_parts (A := big [pt b (.map es c), pt r (.mapIter (some b) since seen c0)]) hS0.env hS0.ro hbig rr d dA dR lA lR
    exact this.sub (sub_open (B := [_, _]) fun _ h => h)
  have hb := hS2.ptRead.1
  have hS3 : St W0 H w (pt r (.mapIter (some b) since seen c0) :: pt b (.map es c) :: Rest) := hS2.sub fun h hb => big_swap hb
  have hr := hS3.ptRead.1
  rcases run_next_at (P := P) w ty r b since c0 seen es c hr hb x1 x2 with ⟨_, hrun⟩ | ⟨e, he, w1, hal, hrun⟩
  · exact ⟨_, H, _, w, by simp [execOp, hF.opv hx, hrun], .refl _, h0, hS1⟩
  · have hm := (mem_left he).1
    obtain ⟨q, hq, cs, e1, e2, e3⟩ := a'.el.mem hm
    have hsh := left_shrinks es seen e he
    have hw1 : EnvOk W0 w1 ∧ w1.heap = w.heap := by rcases hal with rfl | rfl <;> exact ⟨hS3.env.of rfl rfl rfl, rfl⟩
    have hlt := hp_lt (w := w) (b := r) hr
    have hS4 : St W0 H (ChangeMaps.setBlock w1 r (.mapIter (some b) since (seen.push e.born) c)) (pt r (.mapIter (some b) since (seen.push e.born) c) :: pt b (.map es c) :: Rest) := hS3.ptWrite (hw1.1.of rfl rfl rfl) (by
      simp [ChangeMaps.setBlock, hw1.2, hlt]) fun x hx => by
      simp only [ChangeMaps.setBlock, hw1.2, Array.getElem?_setIfInBounds]; rw [if_neg (fun e => hx e.symm)]
    refine ⟨_, H, _, _, by simp [execOp, hF.opv hx, hrun, e1, e2], .refl _, h1 q cs (by omega) hq e3, (hS4.sub fun h hb => big_swap hb).sub (sub_fold (B := [pt b (.map es c), pt r (.mapIter (some b) since (seen.push e.born) c)]) (Sub.refl _) fun h hb => ⟨es, c, since, seen, e, a', ⟨x1, hcl, by omega, hm, e1, e2⟩, hb⟩)⟩
omit [DecidableEq κ] in
theorem op_mhere {x : Operand} {Rest : List HProp} (hx : opv F x = some (.pointer (some ⟨r, 0, none⟩))) (hh : Has L (mapAt ek R ag H0 b r m j q cs) Rest) :
    OpP P n W0 ⟨dst, .entry x, ty, pos, aft, g⟩ F H L (.tuple #[ek q.1, ofC ag cs]) := .mk fun a w hF hS => by
  have hS0 := hS.sub hh.to
  obtain ⟨hA, hR, ⟨es, c, since, seen, e, a', ⟨x1, x2, x3, x4, x5, x6⟩, hbig⟩, rr, d, dA, dR, lA, lR⟩ := hS0.parts
  have hS2 : St W0 H w (pt b (.map es c) :: pt r (.mapIter (some b) since (seen.push e.born) c) :: Rest) := by
    have := St.of_parts (A := big [pt b (.map es c), pt r (.mapIter (some b) since (seen.push e.born) c)]) hS0.env hS0.ro hbig rr d dA dR lA lR
    exact this.sub (sub_open (B := [_, _]) fun _ h => h)
  have hb := hS2.ptRead.1
  have hS3 : St W0 H w (pt r (.mapIter (some b) since (seen.push e.born) c) :: pt b (.map es c) :: Rest) := hS2.sub fun h hb => big_swap hb
  have hr := hS3.ptRead.1
  have hn : (es.toList.map (·.born)).Nodup := by
    rw [List.nodup_iff_pairwise_ne]; exact a'.rise.imp fun h e => by omega
  have hrun := run_entry_at (P := P) w r b since seen es c e hr hb x4 hn
  simp [execOp, hF.opv hx, hrun, x5, x6]
end
section
variable {q' : Bool} {κ ν : Type} [DecidableEq κ] {P : Program} {n : Nat} {W0 : World} {Q : Exit → Act → World → Prop} {F : Slots} {H H0 : Heap} {L Rest : List HProp} {ops : Array Oper} {rest : List Oper} {k : List Fr} {ty : TypeId} {pos : String} {aft : Array Edge} {d : Tmp} {g : Option (Nat × Bool)} {gv : Option (Value × Bool)}
variable {ek : κ → Value} {R : Rd ν} {ag : Bool} {t kt et : TypeId} {m : List (κ × ν)} {b r j : Nat} {q : κ × ν} {cs : List Value}
theorem ops_mrange {x : Operand} [hT : TMap P t kt et] (hg : gval ops F g = some gv) [hb : GOk gv true] (hx : opv F x = some (.map (some b))) (hh : Has L (mapO ek R ag H0 b m) Rest)
    (hk : ∀ r, Ops P n W0 Q ((d, .pointer (some ⟨r, 0, none⟩)) :: F) H (mapIt ek R ag H0 b r m m.length :: Rest) false ops rest k) (hd : Nat.blt d n = true := by rfl) : Ops P n W0 Q F H L false ops (⟨some d, .range t x, ty, pos, aft, g⟩ :: rest) k :=
  ops_w hg hd (op_mrange hx hh hk)
omit [DecidableEq κ] in
theorem ops_mnext {x : Operand} (hg : gval ops F g = some gv) [hb : GOk gv true] (hx : opv F x = some (.pointer (some ⟨r, 0, none⟩))) (hh : Has L (mapIt ek R ag H0 b r m j) Rest)
    (h0 : Ops P n W0 Q ((d, .tuple #[.bool false]) :: F) H (mapIt ek R ag H0 b r m j :: Rest) false ops rest k) (h1 : ∀ q cs, 0 < j → q ∈ m → R H0 cs q.2 → Ops P n W0 Q ((d, .tuple #[.bool true, ek q.1, ofC ag cs]) :: F) H (mapAt ek R ag H0 b r m (j - 1) q cs :: Rest) false ops rest k) (hd : Nat.blt d n = true := by rfl) : Ops P n W0 Q F H L false ops (⟨some d, .next x false, ty, pos, aft, g⟩ :: rest) k :=
  ops_w hg hd (op_mnext hx hh h0 h1)
omit [DecidableEq κ] in
theorem ops_mhere {x : Operand} (hg : gval ops F g = some gv) [hb : GOk gv true] (hx : opv F x = some (.pointer (some ⟨r, 0, none⟩))) (hh : Has L (mapAt ek R ag H0 b r m j q cs) Rest)
    (hk : Ops P n W0 Q ((d, .tuple #[ek q.1, ofC ag cs]) :: F) H L q' ops rest k) (hd : Nat.blt d n = true := by rfl) : Ops P n W0 Q F H L q' ops (⟨some d, .entry x, ty, pos, aft, g⟩ :: rest) k :=
  ops_pure hg hd (op_mhere hx hh) hk
end
end Go.Sx
