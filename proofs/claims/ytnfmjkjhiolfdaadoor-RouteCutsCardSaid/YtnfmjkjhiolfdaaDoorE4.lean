/- Statements whose order is open, in the engine; elements of owned slices. No program in sight. -/
import Derived.Test.YtnfmjkjhiolfdaaDoorE3
set_option linter.unusedVariables false
set_option linter.unusedSimpArgs false
namespace Go.Sx
open Go
def restC : List Oper → Nat → Option (List Oper)
  | l, 0 => some l
  | [], _ + 1 => some []
  | _ :: l, n + 1 => restC l n
theorem restC_eq : ∀ {l : List Oper} {n : Nat} {r : List Oper}, restC l n = some r → l.drop n = r
  | l, 0, r, h => by simpa [restC] using h
  | [], _ + 1, r, h => by simpa [restC] using h
  | _ :: l, n + 1, r, h => by simp only [restC] at h; simpa using restC_eq h
section
variable (P : Program) (n : Nat) (W0 : World) (Q : Exit → Act → World → Prop) (F : Slots) (H H0 : Heap) (L L0 : List HProp)
/-- whatever order comes -/
structure AnyO (m : Nat) (ops : Array Oper) (fuel : Nat) (listed : Array Bool) (k : List Fr) : Prop where
  run : Sat n W0 F H L (Any P W0 H0 L0 m ops (Kx P Q k) fuel listed)
end
section
variable {P : Program} {n : Nat} {W0 : World} {Q : Exit → Act → World → Prop} {F : Slots} {H H0 : Heap} {L L0 : List HProp} {m fuel : Nat} {ops : Array Oper} {listed : Array Bool} {k : List Fr} {op : Op} {ty : TypeId} {pos : String} {aft : Array Edge} {d : Tmp} {v : Value} {vs : List Value}
theorem ex_any [hm : TMix P] {id : Nat} {l : List Oper} (m : Nat) (L0 : List HProp) (h : AnyO P n W0 Q F H H L L0 m l.toArray l.length (Array.replicate l.length false) k) : Ex P n W0 Q F H L (.region id l.toArray true) k := ⟨any_start m L0 h.run⟩
theorem any_pure (i : Nat) (hi : ops[i]? = some ⟨some d, op, ty, pos, aft, none⟩) (hv : OpP P n W0 ⟨some d, op, ty, pos, aft, none⟩ F H0 L0 v) (h : AnyO P n W0 Q ((d, v) :: F) H H0 L L0 m ops fuel (listed.setIfInBounds i true) k)
    (hok : takeOk ops m listed i = true) (hQ : ∀ c a w, Kx P Q k (.panic c) (a.put (some d) v) w → Kx P Q k (.panic c) a w) (hl : H0.le H) (hsub : Sub L L0) (hd : Nat.blt d n = true) : AnyO P n W0 Q F H H0 L L0 m ops (fuel + 1) listed k :=
  ⟨any_take i hi hok hQ hl hsub hd hv h.run⟩
theorem any_p (i : Nat) {side : Prop} (hi : ops[i]? = some ⟨some d, op, ty, pos, aft, none⟩) (hv : opvs F (opsOf op) = some vs) [hp : POp P op vs side v] (h : AnyO P n W0 Q ((d, v) :: F) H H0 L L0 m ops fuel (listed.setIfInBounds i true) k)
    (hs : side := by first | exact True.intro | omega | assumption | (unfold Go.Sx.fits; omega) | (refine ⟨?_, ?_⟩ <;> (try unfold Go.Sx.fits) <;> omega)) (hok : takeOk ops m listed i = true := by decide +kernel) (hQ : ∀ c a w, Kx P Q k (.panic c) (a.put (some d) v) w → Kx P Q k (.panic c) a w := by exact fun _ _ _ h => h)
    (hl : H0.le H := by first | exact Go.Sx.Heap.le.refl _ | assumption | ((try simp only [Go.Sx.le_self] at *); (repeat (first | exact Go.Sx.Heap.le.refl _ | assumption | refine Go.Sx.Heap.le.trans ?_ ‹Go.Sx.Heap.le _ _›)))) (hsub : Sub L L0 := by (repeat (first | exact Go.Sx.Sub.refl _ | exact Go.Sx.Sub.nil _ | (apply Go.Sx.sub_pick; (repeat (first | exact Go.Sx.Has.here | apply Go.Sx.Has.there)); skip) | apply Go.Sx.Sub.drop)))
    (hd : Nat.blt d n = true := by rfl) : AnyO P n W0 Q F H H0 L L0 m ops (fuel + 1) listed k := any_pure i hi (hp.run hs hv) h hok hQ hl hsub hd
theorem any_ld (i : Nat) {x : Operand} {t : TypeId} {b off T : Nat} {cs : List Value} {R : List HProp} [TAgg P t false] (hi : ops[i]? = some ⟨some d, .load t x, ty, pos, aft, none⟩) (hx : opv F x = some (.pointer (some ⟨b, off, none⟩))) [hr : HasRow L0 b T cs R] (hc : cs[off]? = some v) (h : AnyO P n W0 Q ((d, v) :: F) H H0 L L0 m ops fuel (listed.setIfInBounds i true) k)
    (hok : takeOk ops m listed i = true := by decide +kernel) (hQ : ∀ c a w, Kx P Q k (.panic c) (a.put (some d) v) w → Kx P Q k (.panic c) a w := by exact fun _ _ _ h => h)
    (hl : H0.le H := by first | exact Go.Sx.Heap.le.refl _ | assumption | ((try simp only [Go.Sx.le_self] at *); (repeat (first | exact Go.Sx.Heap.le.refl _ | assumption | refine Go.Sx.Heap.le.trans ?_ ‹Go.Sx.Heap.le _ _›)))) (hsub : Sub L L0 := by (repeat (first | exact Go.Sx.Sub.refl _ | exact Go.Sx.Sub.nil _ | (apply Go.Sx.sub_pick; (repeat (first | exact Go.Sx.Has.here | apply Go.Sx.Has.there)); skip) | apply Go.Sx.Sub.drop)))
    (hd : Nat.blt d n = true := by rfl) : AnyO P n W0 Q F H H0 L L0 m ops (fuel + 1) listed k := any_pure i hi (op_load hx hr.has hc) h hok hQ hl hsub hd
theorem any_ldN (i : Nat) {x : Operand} {t : TypeId} {b off T sz : Nat} {cs us : List Value} {R : List HProp} [TAgg P t true] [TSz P t sz] (hi : ops[i]? = some ⟨some d, .load t x, ty, pos, aft, none⟩) (hx : opv F x = some (.pointer (some ⟨b, off, none⟩))) [hr : HasRow L0 b T cs R] (hc : pickC cs off sz = some us) (h : AnyO P n W0 Q ((d, .agg us.toArray) :: F) H H0 L L0 m ops fuel (listed.setIfInBounds i true) k)
    (hok : takeOk ops m listed i = true := by decide +kernel) (hQ : ∀ c a w, Kx P Q k (.panic c) (a.put (some d) (.agg us.toArray)) w → Kx P Q k (.panic c) a w := by exact fun _ _ _ h => h)
    (hl : H0.le H := by first | exact Go.Sx.Heap.le.refl _ | assumption | ((try simp only [Go.Sx.le_self] at *); (repeat (first | exact Go.Sx.Heap.le.refl _ | assumption | refine Go.Sx.Heap.le.trans ?_ ‹Go.Sx.Heap.le _ _›)))) (hsub : Sub L L0 := by (repeat (first | exact Go.Sx.Sub.refl _ | exact Go.Sx.Sub.nil _ | (apply Go.Sx.sub_pick; (repeat (first | exact Go.Sx.Has.here | apply Go.Sx.Has.there)); skip) | apply Go.Sx.Sub.drop)))
    (hd : Nat.blt d n = true := by rfl) : AnyO P n W0 Q F H H0 L L0 m ops (fuel + 1) listed k := any_pure i hi (op_loadN hx hr.has (pickC_pick hc)) h hok hQ hl hsub hd
theorem any_w (i : Nat) (hi : ops[i]? = some ⟨some d, op, ty, pos, aft, none⟩) (h : OpW P n W0 ⟨some d, op, ty, pos, aft, none⟩ F H L (fun v H' L' => H0.le H' ∧ Sub L' L0 ∧ AnyO P n W0 Q ((d, v) :: F) H' H0 L' L0 m ops fuel (listed.setIfInBounds i true) k))
    (hr : Region.ready .any ops listed = [i] := by decide +kernel) (hd : Nat.blt d n = true := by rfl) : AnyO P n W0 Q F H H0 L L0 m ops (fuel + 1) listed k :=
  ⟨any_one hr (at_some hi hd (h.mono fun v H' L' _ ⟨a, b, c⟩ => ⟨a, b, c.run⟩))⟩
theorem any_call (i : Nat) {f : FuncId} {l : List Operand} {ts : Array TypeId} {A R : List HProp} {Post : Value → Heap → List HProp → Prop} [TFn P f] (hi : ops[i]? = some ⟨some d, .call ⟨.value (.func f), l.toArray, ts⟩, ty, pos, aft, none⟩) (ha : opvs F l = some vs) (hs : Ct P f vs.toArray W0 H A Post)
    (hk : ∀ r H' B, H.le H' → Post r H' B → Sub (B ++ R) L0 ∧ AnyO P n W0 Q ((d, r) :: F) H' H0 (B ++ R) L0 m ops fuel (listed.setIfInBounds i true) k) (ht : Take L A R := by repeat (first | exact Go.Sx.Take.nil | (apply Go.Sx.Take.cons; focus (repeat (first | exact Go.Sx.Has.here | apply Go.Sx.Has.there)))))
    (hl : H0.le H := by first | exact Go.Sx.Heap.le.refl _ | assumption | ((try simp only [Go.Sx.le_self] at *); (repeat (first | exact Go.Sx.Heap.le.refl _ | assumption | refine Go.Sx.Heap.le.trans ?_ ‹Go.Sx.Heap.le _ _›)))) (hr : Region.ready .any ops listed = [i] := by decide +kernel) (hd : Nat.blt d n = true := by rfl) : AnyO P n W0 Q F H H0 L L0 m ops (fuel + 1) listed k :=
  any_w i hi (op_call (opvs_args ha) hs ht fun r H' B h1 h2 => ⟨hl.trans h1, (hk r H' B h1 h2).1, (hk r H' B h1 h2).2⟩) hr hd
theorem any_rest {l rest : List Oper} (hrest : restC l m = some rest) (h : Ops P n W0 Q F H L false l.toArray rest k) (hfuel : fuel = rest.length := by rfl) (hok : tailOk l.toArray m listed = true := by decide +kernel) : AnyO P n W0 Q F H H0 L L0 m l.toArray fuel listed k :=
  ⟨any_tail hok (restC_eq hrest) hfuel h.run⟩
theorem any_L {L' : List HProp} (hs : Sub L L') (h : AnyO P n W0 Q F H H0 L' L0 m ops fuel listed k) : AnyO P n W0 Q F H H0 L L0 m ops fuel listed k := ⟨sat_sub h.run hs⟩
theorem any_know {A : HProp} {p : Prop} {R : List HProp} (hh : Has L A R) (hu : ∀ h, A h → p) (h : p → AnyO P n W0 Q F H H0 L L0 m ops fuel listed k) : AnyO P n W0 Q F H H0 L L0 m ops fuel listed k := ⟨sat_know hh hu fun hp => (h hp).run⟩
theorem any_open {σ : Type} {A : HProp} {B : σ → List HProp} {p : σ → Prop} {R : List HProp} (hh : Has L A R) (hu : ∀ h, A h → ∃ s, p s ∧ big (B s) h) (h : ∀ s, p s → AnyO P n W0 Q F H H0 (B s ++ R) L0 m ops fuel listed k) : AnyO P n W0 Q F H H0 L L0 m ops fuel listed k := ⟨sat_unfold hh hu fun s hp => (h s hp).run⟩
theorem any_shape {α : Type} {R : Rd α} {sz w T : Nat} {H1 : Heap} {xs : List α} {L' : List HProp} (s : Value) [hh : HasS L s α R sz w T H1 xs L'] (h : ∀ base cap, s = .slice base xs.length cap → xs.length ≤ cap → cap ≤ 9223372036854775807 → xs.length * w ≤ cap47 → AnyO P n W0 Q F H H0 L L0 m ops fuel listed k) : AnyO P n W0 Q F H H0 L L0 m ops fuel listed k :=
  ⟨sat_know hh.has (fun _ ho => And.intro (ownS_shape ho) (ownS_small ho)) fun ⟨⟨b, c, e, h1, h2⟩, h3⟩ => (h b c e h1 h2 h3).run⟩
theorem any_freeze {α : Type} {R : Rd α} {sz w T : Nat} {H1 : Heap} {xs : List α} {L' : List HProp} (s : Value) [hh : HasS L s α R sz w T H1 xs L'] [hR : RdOk R sz] (h : ∀ H', H.le H' → SlB R sz w H' s xs → AnyO P n W0 Q F H' H0 L' L0 m ops fuel listed k) (hl : H1.le H := by first | exact Go.Sx.Heap.le.refl _ | assumption | ((try simp only [Go.Sx.le_self] at *); (repeat (first | exact Go.Sx.Heap.le.refl _ | assumption | refine Go.Sx.Heap.le.trans ?_ ‹Go.Sx.Heap.le _ _›)))) : AnyO P n W0 Q F H H0 L L0 m ops fuel listed k :=
  ⟨sat_unfold (σ := List Value) (B := fun cs => [own T sz s xs.length cs]) (p := fun cs => RL R H1 cs xs ∧ xs.length * w ≤ cap47) hh.has (fun x ⟨cs, a, b⟩ => ⟨cs, a, ⟨x, Heap.empty, b, trivial, fun _ => .inr rfl, .refl _, fun _ _ h => by simp [Heap.empty] at h⟩⟩)
    fun cs ⟨a, b⟩ => sat_freeze_own .here a.one fun H' hl' hs => (h H' hl' ⟨⟨cs, hs, a.mono (hl.trans hl')⟩, b⟩).run⟩
/-- append(s, x) -/
theorem any_app1 (i j : Nat) {α : Type} {R : Rd α} {sz w T : Nat} {H1 : Heap} {xs : List α} {y : α} {L' : List HProp} {sv xv z : Value} {us : List Value} {d' : Tmp} {ty' : TypeId} {pos' : String} {aft' : Array Edge} {t : TypeId} {s x : Operand} [hT : TSl P t T] [hI : TIn P T sz w z] [hS' : TSz P T sz] [hZ : TZ P T z] [hR : RdOk R sz]
    (hi : ops[i]? = some ⟨some d, .buildSlice t 1 #[(0, x)], ty, pos, aft, none⟩) (hj : ops[j]? = some ⟨some d', .call ⟨.builtin .append, #[s, .tmp d], #[t, t]⟩, ty', pos', aft', none⟩) (hv : opvs F [s, x] = some [sv, xv]) [hc : CellsI xv us] [hh : HasS L sv α R sz w T H1 xs L'] (hy : R H us y) (hcap : (xs.length + 1) * w ≤ cap47)
    (hk : ∀ base cap, Sub (ownS R sz w T H (.slice base (xs.length + 1) cap) (xs ++ [y]) :: L') L0 ∧ AnyO P n W0 Q ((d', .slice base (xs.length + 1) cap) :: F) H H0 (ownS R sz w T H (.slice base (xs.length + 1) cap) (xs ++ [y]) :: L') L0 m ops fuel ((listed.setIfInBounds i true).setIfInBounds j true) k)
    (hl : H1.le H := by first | exact Go.Sx.Heap.le.refl _ | assumption | ((try simp only [Go.Sx.le_self] at *); (repeat (first | exact Go.Sx.Heap.le.refl _ | assumption | refine Go.Sx.Heap.le.trans ?_ ‹Go.Sx.Heap.le _ _›)))) (hl0 : H0.le H := by first | exact Go.Sx.Heap.le.refl _ | assumption | ((try simp only [Go.Sx.le_self] at *); (repeat (first | exact Go.Sx.Heap.le.refl _ | assumption | refine Go.Sx.Heap.le.trans ?_ ‹Go.Sx.Heap.le _ _›)))) (hsub : Sub L L0 := by (repeat (first | exact Go.Sx.Sub.refl _ | exact Go.Sx.Sub.nil _ | (apply Go.Sx.sub_pick; (repeat (first | exact Go.Sx.Has.here | apply Go.Sx.Has.there)); skip) | apply Go.Sx.Sub.drop)))
    (h0 : (Nat.blt 0 sz && Nat.ble sz 1000 && Nat.blt 0 w) = true := by rfl) (hn : fget F d = none := by rfl) (hd : Nat.blt d n = true := by rfl) (hd' : Nat.blt d' n = true := by rfl) (hs0 : ∀ u, opv ((d, u) :: F) s = opv F s := by intro u; rfl)
    (hr : Region.ready .any ops listed = [i] := by decide +kernel) (hr' : Region.ready .any ops (listed.setIfInBounds i true) = [j] := by decide +kernel) : AnyO P n W0 Q F H H0 L L0 m ops (fuel + 1 + 1) listed k := by
  obtain ⟨hvs, hvx⟩ := opvs2 hv
  simp only [Bool.and_eq_true] at h0
  have hwpos : 0 < w := by simpa [Nat.blt_eq] using h0.2
  have hzs : z.cells.size = sz := by obtain ⟨_, _, _, _, _, h, _⟩ := hI.ex; exact h
  refine any_w i hi (op_buildSlice1 (z := z) hvx hc.h (hR.len hy) hzs (by simp [h0.1]) fun b hbn => ⟨hl0, Sub.drop hsub, ?_⟩) hr hd
  refine any_open (σ := List Value) (B := fun cs => [own T sz sv xs.length cs]) (p := fun cs => RL R H1 cs xs ∧ xs.length * w ≤ cap47) (.there hh.has) (fun x ⟨cs, a, b⟩ => ⟨cs, a, ⟨x, Heap.empty, b, trivial, fun _ => .inr rfl, .refl _, fun _ _ h => by simp [Heap.empty] at h⟩⟩) fun cs ⟨a, hsm⟩ => ?_
  have hc47 := cap47_fits hwpos hcap
  refine any_w j hj (op_append (m := xs.length) (k := 1) (news := us) (xv := .slice (some ⟨b, 0, none⟩) 1 1) ((hs0 _).trans hvs) (by simp [opv, fget]) .here (.row0 hT.und (.there .here) (by simpa using hR.len hy) (hR.one hy)) (by simp only [maxLen]; simp only [cap47] at hc47; omega) hcap fun base cap => ?_) hr' hd'
  have key : Sub (own T sz (.slice base (xs.length + 1) cap) (xs.length + 1) (cs ++ us) :: (row b T us :: L')) (ownS R sz w T H (.slice base (xs.length + 1) cap) (xs ++ [y]) :: L') := by
    intro h ⟨h1, h2, p, q, dd, l1, l2⟩
    exact ⟨h1, h2, ⟨cs ++ us, ⟨(a.mono hl).snoc hy, by simpa using hcap⟩, by simpa using p⟩, Sub.drop (Sub.refl _) _ q, dd, l1, l2⟩
  refine ⟨hl0, key.trans (hk base cap).1, ?_⟩
  exact ⟨(any_L key (hk base cap).2).run.sub (Sub.refl _) (fsub_new hn)⟩
/-! single operations, typed -/
section
variable {K : Value → Heap → List HProp → Prop} {dst : Option Tmp} {g : Option (Nat × Bool)} {o : Oper}
theorem OpW.sub (h : OpW P n W0 o F H L (fun v H' L' => ∃ L'', Sub L' L'' ∧ K v H' L'')) : OpW P n W0 o F H L K := fun a w next Q hF hS hn => h a w next Q hF hS fun v H' L' w' hl ⟨L'', hs, hk⟩ hst => hn v H' L'' w' hl hk (hst.sub hs)
theorem OpW.open {σ : Type} {A : HProp} {B : σ → List HProp} {p : σ → Prop} {R : List HProp} (hh : Has L A R) (hu : ∀ h, A h → ∃ s, p s ∧ big (B s) h) (h : ∀ s, p s → OpW P n W0 o F H (B s ++ R) K) : OpW P n W0 o F H L K := fun a w next Q hF hS hn =>
  sat_unfold (G := fun a w => (∀ v H' L' w', H.le H' → K v H' L' → St W0 H' w' L' → next (a.put o.dst v) w') → o.wp P a w next Q) hh hu (fun s hp a w hF hS hn => h s hp a w next Q hF hS hn) a w hF hS hn
variable {α : Type} {R : Rd α} {sz wd T : Nat} {H1 : Heap} {xs ys : List α} {y : α} {L' : List HProp} {sv xv z : Value} {us : List Value} {t : TypeId} {s x : Operand}
theorem op_mk0S (R : Rd α) [hT : TSl P t T] [hS' : TSz P T sz] [hR : RdOk R sz] (hk : ∀ b, K (.slice b 0 0) H (ownS R sz wd T H (.slice b 0 0) [] :: L)) : OpW P n W0 ⟨dst, .buildSlice t 0 #[], ty, pos, aft, g⟩ F H L K :=
  .sub (op_buildSlice0 fun b _ => ⟨_, (Sub.drop (Sub.refl _)).trans ownS_nil, hk _⟩)
theorem op_bs1 [hT : TSl P t T] [hI : TIn P T sz wd z] [hS' : TSz P T sz] [hZ : TZ P T z] (hx : opv F x = some xv) [hc : CellsI xv us] (hl : us.length = sz) (h0 : (Nat.blt 0 sz && Nat.ble sz 1000) = true) (hk : ∀ b, K (.slice (some ⟨b, 0, none⟩) 1 1) H (row b T us :: L)) : OpW P n W0 ⟨dst, .buildSlice t 1 #[(0, x)], ty, pos, aft, g⟩ F H L K :=
  op_buildSlice1 (z := z) hx hc.h hl (by obtain ⟨_, _, _, _, _, h, _⟩ := hI.ex; exact h) (by simpa using h0) fun b _ => hk b
theorem op_appSS [hT : TSl P t T] [hI : TIn P T sz wd z] [hR : RdOk R sz] (hv : opvs F [s, x] = some [sv, xv]) [hh : HasS L sv α R sz wd T H1 xs L'] (hy : SlR R sz H xv ys) (hcap : (xs.length + ys.length) * wd ≤ cap47)
    (hk : ∀ base cap, K (.slice base (xs.length + ys.length) cap) H (ownS R sz wd T H (.slice base (xs.length + ys.length) cap) (xs ++ ys) :: L')) (hl : H1.le H := by first | exact Go.Sx.Heap.le.refl _ | assumption | ((try simp only [Go.Sx.le_self] at *); (repeat (first | exact Go.Sx.Heap.le.refl _ | assumption | refine Go.Sx.Heap.le.trans ?_ ‹Go.Sx.Heap.le _ _›)))) (h0 : (Nat.blt 0 wd) = true := by rfl) :
    OpW P n W0 ⟨dst, .call ⟨.builtin .append, #[s, x], #[t, t]⟩, ty, pos, aft, g⟩ F H L K := by
  obtain ⟨hvs, hvx⟩ := opvs2 hv
  have hwpos : 0 < wd := by simpa [Nat.blt_eq] using h0
  obtain ⟨ds, hy1, hy2⟩ := hy
  refine .open (σ := List Value) (B := fun cs => [own T sz sv xs.length cs]) (p := fun cs => RL R H1 cs xs ∧ xs.length * wd ≤ cap47) hh.has (fun x ⟨cs, a, b⟩ => ⟨cs, a, ⟨x, Heap.empty, b, trivial, fun _ => .inr rfl, .refl _, fun _ _ h => by simp [Heap.empty] at h⟩⟩) fun cs ⟨a, hsm⟩ => ?_
  have hc47 := cap47_fits hwpos hcap
  refine .sub (op_append (m := xs.length) (k := ys.length) (news := ds) hvs hvx .here (.ro hT.und hy1) (by simp only [maxLen]; simp only [cap47] at hc47; omega) hcap fun base cap => ⟨_, ?_, hk base cap⟩)
  intro h ⟨h1, h2, p, q, dd, l1, l2⟩
  exact ⟨h1, h2, ⟨cs ++ ds, ⟨(a.mono hl).app hy2, by simpa using hcap⟩, by simpa using p⟩, q, dd, l1, l2⟩
/-- append of a row of one element -/
theorem op_appRS {b : Nat} {L2 : List HProp} [hT : TSl P t T] [hI : TIn P T sz wd z] [hR : RdOk R sz] (hv : opvs F [s, x] = some [sv, .slice (some ⟨b, 0, none⟩) 1 1]) [hh : HasS L sv α R sz wd T H1 xs L'] [hrow : HasRow L' b T us L2] (hy : R H us y) (hcap : (xs.length + 1) * wd ≤ cap47)
    (hk : ∀ base cap, K (.slice base (xs.length + 1) cap) H (ownS R sz wd T H (.slice base (xs.length + 1) cap) (xs ++ [y]) :: L')) (hl : H1.le H := by first | exact Go.Sx.Heap.le.refl _ | assumption | ((try simp only [Go.Sx.le_self] at *); (repeat (first | exact Go.Sx.Heap.le.refl _ | assumption | refine Go.Sx.Heap.le.trans ?_ ‹Go.Sx.Heap.le _ _›)))) (h0 : (Nat.blt 0 wd) = true := by rfl) :
    OpW P n W0 ⟨dst, .call ⟨.builtin .append, #[s, x], #[t, t]⟩, ty, pos, aft, g⟩ F H L K := by
  obtain ⟨hvs, hvx⟩ := opvs2 hv
  have hwpos : 0 < wd := by simpa [Nat.blt_eq] using h0
  refine .open (σ := List Value) (B := fun cs => [own T sz sv xs.length cs]) (p := fun cs => RL R H1 cs xs ∧ xs.length * wd ≤ cap47) hh.has (fun x ⟨cs, a, b⟩ => ⟨cs, a, ⟨x, Heap.empty, b, trivial, fun _ => .inr rfl, .refl _, fun _ _ h => by simp [Heap.empty] at h⟩⟩) fun cs ⟨a, hsm⟩ => ?_
  have hc47 := cap47_fits hwpos hcap
  refine .sub (op_append (m := xs.length) (k := 1) (news := us) hvs hvx .here (.row0 hT.und (.there hrow.has) (by simpa using hR.len hy) (hR.one hy)) (by simp only [maxLen]; simp only [cap47] at hc47; omega) hcap fun base cap => ⟨_, ?_, hk base cap⟩)
  intro h ⟨h1, h2, p, q, dd, l1, l2⟩
  exact ⟨h1, h2, ⟨cs ++ us, ⟨(a.mono hl).snoc hy, by simpa using hcap⟩, by simpa using p⟩, q, dd, l1, l2⟩
end
/-- two that may come up -/
theorem any_w2 (i j : Nat) {d' : Tmp} {op' : Op} {ty' : TypeId} {pos' : String} {aft' : Array Edge} (hi : ops[i]? = some ⟨some d, op, ty, pos, aft, none⟩) (hj : ops[j]? = some ⟨some d', op', ty', pos', aft', none⟩)
    (h : OpW P n W0 ⟨some d, op, ty, pos, aft, none⟩ F H L (fun v H' L' => H0.le H' ∧ Sub L' L0 ∧ AnyO P n W0 Q ((d, v) :: F) H' H0 L' L0 m ops fuel (listed.setIfInBounds i true) k))
    (h' : OpW P n W0 ⟨some d', op', ty', pos', aft', none⟩ F H L (fun v H' L' => H0.le H' ∧ Sub L' L0 ∧ AnyO P n W0 Q ((d', v) :: F) H' H0 L' L0 m ops fuel (listed.setIfInBounds j true) k))
    (hr : Region.ready .any ops listed = [i, j] := by decide +kernel) (hd : Nat.blt d n = true := by rfl) (hd' : Nat.blt d' n = true := by rfl) : AnyO P n W0 Q F H H0 L L0 m ops (fuel + 1) listed k :=
  ⟨any_two hr (at_some hi hd (h.mono fun v H' L' _ ⟨a, b, c⟩ => ⟨a, b, c.run⟩)) (at_some hj hd' (h'.mono fun v H' L' _ ⟨a, b, c⟩ => ⟨a, b, c.run⟩))⟩
/-- an element of an owned slice, whole -/
theorem ops_ixo {α : Type} {R : Rd α} {sz w T : Nat} {HS : Heap} {xs : List α} {L' : List HProp} {t : TypeId} {x y : Operand} {i : Int} {j : Nat} {kd : IntKind} {d' : Tmp} {ty' : TypeId} {pos' : String} {aft' : Array Edge} {g g' : Option (Nat × Bool)} {gv gv' : Option (Value × Bool)} {rest : List Oper} [hR : RdOk R sz] [TSl P t T] [TSz P T sz] [TAgg P T true]
    (hg : gval ops F g = some gv) [hb : GOk gv true] (hg' : gval ops F g' = some gv') [hb' : GOk gv' true] (hv : opvs F [x, y] = some [v, .int kd i]) [hi : NatOf i j] [hh : HasS L v α R sz w T HS xs L'] (hj : j < xs.length) (hk : ∀ c, R HS c (xs[j]'hj) → Ops P n W0 Q ((d', .agg c.toArray) :: F) H L false ops rest k)
    (hn : fget F d = none := by rfl) (hd : Nat.blt d n = true := by rfl) (hd' : Nat.blt d' n = true := by rfl) : Ops P n W0 Q F H L false ops (⟨some d, .indexAddr t x y, ty, pos, aft, g⟩ :: ⟨some d', .load T (.tmp d), ty', pos', aft', g'⟩ :: rest) k := by
  obtain ⟨rfl⟩ := hi
  obtain ⟨hvx, hvy⟩ := opvs2 hv
  refine ops_open (σ := List Value) (B := fun cs => [own T sz v xs.length cs]) (p := fun cs => RL R HS cs xs ∧ xs.length * w ≤ cap47) hh.has (fun x ⟨cs, a, b⟩ => ⟨cs, a, ⟨x, Heap.empty, b, trivial, fun _ => .inr rfl, .refl _, fun _ _ h => by simp [Heap.empty] at h⟩⟩) fun cs ⟨a, hsm⟩ => ?_
  obtain ⟨c, r, hcr, hc⟩ := a.get hj
  refine ops_open (σ := Nat × Nat × List Value) (B := fun s => [row s.1 T (cs ++ s.2.2)]) (p := fun s => v = .slice (some ⟨s.1, 0, none⟩) xs.length s.2.1 ∧ xs.length ≤ s.2.1 ∧ s.2.1 ≤ 9223372036854775807 ∧ cs.length = xs.length * sz ∧ (cs ++ s.2.2).length = s.2.1 * sz) .here (fun h ho => own_open (by omega) ho) fun ⟨b, cap, sp⟩ ⟨he, h5, h6, h7, h8⟩ => ?_
  simp only at he h5 h6 h7 h8
  subst he
  refine ops_pure hg hd (op_indexAddr (i := (j : Int)) hvx hvy (by omega) (by omega)) ?_
  refine ops_pure (v := .agg c.toArray) (gval_new hn hg') hd' (op_loadAt (b := b) (off := 0 + (j : Int).toNat * sz) (cs := cs ++ sp) (by simp [opv, fget]) .here (at_of_drop (by simpa using hcr)) (hR.len hc)) ?_
  refine ops_fsub (fsub_new hn) (ops_L ?_ (hk c hc))
  refine Sub.trans ?_ hh.has.from
  intro h hb
  obtain ⟨h1, h2, p, q, dd, l1, l2⟩ := own_shut (R := L') h7 h5 h6 h8 h hb
  exact ⟨h1, h2, ⟨cs, ⟨a, hsm⟩, p⟩, q, dd, l1, l2⟩
end
end Go.Sx
