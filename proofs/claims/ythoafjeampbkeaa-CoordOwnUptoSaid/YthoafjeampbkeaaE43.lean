/- A move taken ahead of an open region, so that the barrier behind the others may stand nearer. No program in sight. -/
import Derived.Test.YthoafjeampbkeaaE42
set_option linter.unusedVariables false
set_option linter.unusedSimpArgs false
namespace Go.Sx
open Go Go.Proofs
theorem wpP_true {P : Program} {ops : Array Oper} {Q : Exit → Act → World → Prop} {m : Nat} : ∀ (fuel : Nat) (listed : Array Bool) (a : Act) (w : World), wpAny P .any ops Q fuel listed a w → wpP P ops Q (fun _ => True) m fuel listed a w
  | 0, _, _, _, h => h
  | fuel + 1, listed, a, w, h => by
    unfold wpP
    split
    · exact h
    · exact ⟨h.1, fun i hi => wpOp_mono (fun a' w' h' => ⟨trivial, wpP_true fuel _ a' w' h'⟩) (h.2 i hi)⟩
section
variable {P : Program} {n : Nat} {W0 : World} {Q : Exit → Act → World → Prop} {F : Slots} {H : Heap} {L : List HProp} {k : List Fr} {ty : TypeId} {pos : String} {aft : Array Edge} {d : Tmp} {v : Value} {x : Operand}
theorem any_start0 [hm : TMix P] {id : Nat} {l : List Oper} (i mm m fuel : Nat) (L0 : List HProp) (hi : l.toArray[i]? = some ⟨some d, .move x, ty, pos, aft, none⟩) (hx : opv F x = some v) (hok : takeOk l.toArray mm (Array.replicate l.length false) i = true)
    (hQ : ∀ c a w, Q (.panic c) (a.put (some d) v) w → Q (.panic c) a w) (hd : Nat.blt d n = true) (hlen : l.length = fuel + 1)
    (h : Sat n W0 ((d, v) :: F) H L (Any P W0 H L0 m l.toArray Q fuel ((Array.replicate l.length false).setIfInBounds i true))) : Sat n W0 F H L ((Code.region id l.toArray true).wp P Q) := fun a w hF hS => by
  refine wp_region_any hm.h (wpP_any _ _ _ _ (S := fun _ => True) (m := mm) ?_)
  have g1 := h _ w.drew (hF.put hd v) (hS.keep (hS.env.of rfl rfl rfl) rfl)
  have g2 := wpP_true (m := mm) _ _ _ _ (wpP_any _ _ _ _ g1)
  simp only [takeOk, Bool.and_eq_true, Nat.blt_eq] at hok
  obtain ⟨⟨⟨⟨⟨h1, h2⟩, h3⟩, h4⟩, h5⟩, h6⟩ := hok
  have g3 := wpP_first (P := P) (S := fun _ => True) hi h5 (Region.noSelect_spec h1) hQ fuel _ a w.drew h4 h6 (Region.free_spec hi h2) (by simpa using h3) (.inl ⟨by simp [Region.wanted], fun w' _ => by simp [execOp, hF.opv hx]⟩) trivial g2
  rw [← hlen] at g3
  simpa using g3
theorem ex_any0 [hm : TMix P] {id : Nat} {l : List Oper} (i mm m fuel : Nat) (L0 : List HProp) (hi : l.toArray[i]? = some ⟨some d, .move x, ty, pos, aft, none⟩) (hx : opv F x = some v)
    (h : AnyO P n W0 Q ((d, v) :: F) H H L L0 m l.toArray fuel ((Array.replicate l.length false).setIfInBounds i true) k) (hok : takeOk l.toArray mm (Array.replicate l.length false) i = true := by decide +kernel)
    (hQ : ∀ c a w, Kx P Q k (.panic c) (a.put (some d) v) w → Kx P Q k (.panic c) a w := by exact fun _ _ _ h => h) (hd : Nat.blt d n = true := by rfl) (hlen : l.length = fuel + 1 := by rfl) : Ex P n W0 Q F H L (.region id l.toArray true) k :=
  ⟨any_start0 i mm m fuel L0 hi hx hok hQ hd hlen h.run⟩
end
section
variable {P : Program} {n : Nat} {W0 : World} {Q : Exit → Act → World → Prop} {F : Slots} {H H0 : Heap} {L L0 : List HProp} {m fuel : Nat} {ops : Array Oper} {listed : Array Bool} {k : List Fr} {ty : TypeId} {pos : String} {aft : Array Edge} {d : Tmp} {v : Value} {g : Option (Nat × Bool)} {gv : Option (Value × Bool)}
/-- an element of an owned slice that lies in L0, whole: the address and the load -/
theorem any_rowS {α : Type} {R : Rd α} {sz w T : Nat} {H1 : Heap} {xs : List α} {L' : List HProp} (s : Value) [hh : HasS L s α R sz w T H1 xs L'] (h0 : 0 < xs.length)
    (h : ∀ b cap cs sp, s = .slice (some ⟨b, 0, none⟩) xs.length cap → xs.length ≤ cap → cap ≤ 9223372036854775807 → cs.length = xs.length * sz → (cs ++ sp).length = cap * sz → RL R H1 cs xs → xs.length * w ≤ cap47 → AnyO P n W0 Q F H H0 (row b T (cs ++ sp) :: L') L0 m ops fuel listed k) : AnyO P n W0 Q F H H0 L L0 m ops fuel listed k :=
  ⟨sat_unfold (σ := List Value) (B := fun cs => [own T sz s xs.length cs]) (p := fun cs => RL R H1 cs xs ∧ xs.length * w ≤ cap47) hh.has (fun x ⟨cs, a, b⟩ => ⟨cs, a, ⟨x, Heap.empty, b, trivial, fun _ => .inr rfl, .refl _, fun _ _ h => by simp [Heap.empty] at h⟩⟩)
    fun cs ⟨a, hb⟩ => sat_unfold (σ := Nat × Nat × List Value) (B := fun s => [row s.1 T (cs ++ s.2.2)]) (p := fun x => s = .slice (some ⟨x.1, 0, none⟩) xs.length x.2.1 ∧ xs.length ≤ x.2.1 ∧ x.2.1 ≤ 9223372036854775807 ∧ cs.length = xs.length * sz ∧ (cs ++ x.2.2).length = x.2.1 * sz) .here (fun h ho => own_open h0 ho)
      fun ⟨b, cap, sp⟩ ⟨h1, h2, h3, h4, h5⟩ => (h b cap cs sp h1 h2 h3 h4 h5 a hb).run⟩
/-- an owned row is an owned slice again -/
theorem any_shutS {α : Type} {R : Rd α} {sz w T : Nat} {H1 : Heap} {xs : List α} {b cap : Nat} {cs sp : List Value} {L' : List HProp} [hr : HasRow L b T (cs ++ sp) L'] (h1 : xs.length ≤ cap) (h2 : cap ≤ 9223372036854775807) (h3 : cs.length = xs.length * sz) (h4 : (cs ++ sp).length = cap * sz) (hR : RL R H1 cs xs) (hw : xs.length * w ≤ cap47)
    (h : AnyO P n W0 Q F H H0 (ownS R sz w T H1 (.slice (some ⟨b, 0, none⟩) xs.length cap) xs :: L') L0 m ops fuel listed k) : AnyO P n W0 Q F H H0 L L0 m ops fuel listed k :=
  ⟨sat_sub h.run (hr.has.to.trans ((own_shut h3 h1 h2 h4).trans (ownS_mk hR hw)))⟩
theorem gny_ixB (i : Nat) {t T : TypeId} {x y : Operand} {b len cap sz j : Nat} {kd : IntKind} {ii : Int} [TSl P t T] [TSz P T sz] (hi : ops[i]? = some ⟨some d, .indexAddr t x y, ty, pos, aft, g⟩) (hg : gval ops F g = some gv) [hb : GOk gv true] (hv : opvs F [x, y] = some [.slice (some ⟨b, 0, none⟩) len cap, .int kd ii]) [hin : NatOf ii j] (hj : j < len)
    (h : AnyO P n W0 Q ((d, .pointer (some ⟨b, 0 + (j : Int).toNat * sz, none⟩)) :: F) H H0 L L0 m ops fuel (listed.setIfInBounds i true) k) (hok : takeOk ops m listed i = true := by decide +kernel) (hQ : ∀ v c a w, Kx P Q k (.panic c) (a.put (some d) v) w → Kx P Q k (.panic c) a w := by exact fun _ _ _ _ h => h)
    (hl : H0.le H := by first | exact Go.Sx.Heap.le.refl _ | assumption | ((try simp only [Go.Sx.le_self] at *); (repeat (first | exact Go.Sx.Heap.le.refl _ | assumption | refine Go.Sx.Heap.le.trans ?_ ‹Go.Sx.Heap.le _ _›)))) (hsub : Sub L L0 := by (repeat (first | exact Go.Sx.Sub.refl _ | exact Go.Sx.Sub.nil _ | (apply Go.Sx.sub_pick; (repeat (first | exact Go.Sx.Has.here | apply Go.Sx.Has.there)); skip) | apply Go.Sx.Sub.drop))) (hd : Nat.blt d n = true := by rfl) : AnyO P n W0 Q F H H0 L L0 m ops (fuel + 1) listed k := by
  obtain ⟨rfl⟩ := hin
  exact gny_pure i hi hg (op_indexAddr (i := (j : Int)) (opvs2 hv).1 (opvs2 hv).2 (by omega) (by omega)) h hok (hQ _) hl hsub hd
theorem gny_ldA (i : Nat) {t T : TypeId} {x : Operand} {b off sz : Nat} {cs us : List Value} {R : List HProp} [TAgg P t true] [TSz P t sz] (hi : ops[i]? = some ⟨some d, .load t x, ty, pos, aft, g⟩) (hg : gval ops F g = some gv) [hb : GOk gv true] (hx : opv F x = some (.pointer (some ⟨b, off, none⟩))) [hr : HasRow L0 b T cs R] (hat : At cs off us) (hlen : us.length = sz)
    (h : AnyO P n W0 Q ((d, .agg us.toArray) :: F) H H0 L L0 m ops fuel (listed.setIfInBounds i true) k) (hok : takeOk ops m listed i = true := by decide +kernel) (hQ : ∀ v c a w, Kx P Q k (.panic c) (a.put (some d) v) w → Kx P Q k (.panic c) a w := by exact fun _ _ _ _ h => h)
    (hl : H0.le H := by first | exact Go.Sx.Heap.le.refl _ | assumption | ((try simp only [Go.Sx.le_self] at *); (repeat (first | exact Go.Sx.Heap.le.refl _ | assumption | refine Go.Sx.Heap.le.trans ?_ ‹Go.Sx.Heap.le _ _›)))) (hsub : Sub L L0 := by (repeat (first | exact Go.Sx.Sub.refl _ | exact Go.Sx.Sub.nil _ | (apply Go.Sx.sub_pick; (repeat (first | exact Go.Sx.Has.here | apply Go.Sx.Has.there)); skip) | apply Go.Sx.Sub.drop))) (hd : Nat.blt d n = true := by rfl) : AnyO P n W0 Q F H H0 L L0 m ops (fuel + 1) listed k := by
  exact gny_pure i hi hg (op_loadAt hx hr.has hat hlen) h hok (hQ _) hl hsub hd
end
section
variable {P : Program} {n : Nat} {W0 : World} {Q : Exit → Act → World → Prop} {F : Slots} {H H0 : Heap} {L L0 : List HProp} {m fuel : Nat} {ops : Array Oper} {listed : Array Bool} {k : List Fr} {ty : TypeId} {pos : String} {aft : Array Edge} {d : Tmp} {v : Value} {vs us : List Value}
/-- one of several that may come up: a call -/
theorem at_call (i : Nat) {f : FuncId} {l : List Operand} {ts : Array TypeId} {A R : List HProp} {Post : Value → Heap → List HProp → Prop} [TFn P f] (hi : ops[i]? = some ⟨some d, .call ⟨.value (.func f), l.toArray, ts⟩, ty, pos, aft, none⟩) (ha : opvs F l = some vs) (hs : Ct P f vs.toArray W0 H A Post)
    (hk : ∀ r H' B, H.le H' → Post r H' B → Sub (B ++ R) L0 ∧ AnyO P n W0 Q ((d, r) :: F) H' H0 (B ++ R) L0 m ops fuel (listed.setIfInBounds i true) k) (ht : Take L A R := by repeat (first | exact Go.Sx.Take.nil | (apply Go.Sx.Take.cons; focus (repeat (first | exact Go.Sx.Has.here | apply Go.Sx.Has.there)))))
    (hl : H0.le H := by first | exact Go.Sx.Heap.le.refl _ | assumption | ((try simp only [Go.Sx.le_self] at *); (repeat (first | exact Go.Sx.Heap.le.refl _ | assumption | refine Go.Sx.Heap.le.trans ?_ ‹Go.Sx.Heap.le _ _›)))) (hd : Nat.blt d n = true := by rfl) : AnyAt P n W0 F H H0 L L0 m ops (Kx P Q k) fuel listed i :=
  at_w i hi (op_call (opvs_args ha) hs ht fun r H' B h1 h2 => ⟨hl.trans h1, (hk r H' B h1 h2).1, (hk r H' B h1 h2).2⟩) hd
/-- .. a slice of one -/
theorem at_bs1 (i : Nat) {t T : TypeId} {sz wd : Nat} {z xv : Value} {x : Operand} [hT : TSl P t T] [hI : TIn P T sz wd z] [hS' : TSz P T sz] [hZ : TZ P T z] (hi : ops[i]? = some ⟨some d, .buildSlice t 1 #[(0, x)], ty, pos, aft, none⟩) (hx : opv F x = some xv) [hc : CellsI xv us] (hlen : us.length = sz)
    (hk : ∀ b, Sub (row b T us :: L) L0 ∧ AnyO P n W0 Q ((d, .slice (some ⟨b, 0, none⟩) 1 1) :: F) H H0 (row b T us :: L) L0 m ops fuel (listed.setIfInBounds i true) k) (h0 : (Nat.blt 0 sz && Nat.ble sz 1000) = true := by rfl)
    (hl : H0.le H := by first | exact Go.Sx.Heap.le.refl _ | assumption | ((try simp only [Go.Sx.le_self] at *); (repeat (first | exact Go.Sx.Heap.le.refl _ | assumption | refine Go.Sx.Heap.le.trans ?_ ‹Go.Sx.Heap.le _ _›)))) (hd : Nat.blt d n = true := by rfl) : AnyAt P n W0 F H H0 L L0 m ops (Kx P Q k) fuel listed i :=
  at_w i hi (op_bs1 hx hlen h0 fun b => ⟨hl, (hk b).1, (hk b).2⟩) hd
theorem any_1 (i : Nat) (h : AnyAt P n W0 F H H0 L L0 m ops (Kx P Q k) fuel listed i) (hr : Region.ready .any ops listed = [i] := by decide +kernel) : AnyO P n W0 Q F H H0 L L0 m ops (fuel + 1) listed k := ⟨any_one hr h⟩
end
end Go.Sx
