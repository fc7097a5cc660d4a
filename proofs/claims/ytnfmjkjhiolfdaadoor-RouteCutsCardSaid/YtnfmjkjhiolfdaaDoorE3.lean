/- Slices that grow, their elements read; opening, knowing, freezing at any place of the walk. No program in sight. -/
import Derived.Test.YtnfmjkjhiolfdaaDoorE2
set_option linter.unusedVariables false
set_option linter.unusedSimpArgs false
namespace Go.Sx
open Go
theorem cap47_fits {n w : Nat} (hw : 0 < w) (h : n * w ≤ cap47) : n ≤ cap47 := Nat.le_trans (Nat.le_mul_of_pos_right n hw) h
/-- a slice that grows; its elements read as R says; w bytes each -/
def ownS {α : Type} (R : Rd α) (sz w T : Nat) (H : Heap) (s : Value) (xs : List α) : HProp := fun h => ∃ cs, (RL R H cs xs ∧ xs.length * w ≤ cap47) ∧ own T sz s xs.length cs h
section
variable {α : Type} {R : Rd α} {sz w T : Nat} {H H' : Heap} {s : Value} {xs : List α} {L : List HProp}
theorem ownS_up [RdOk R sz] (hl : H.le H') : Sub (ownS R sz w T H s xs :: L) (ownS R sz w T H' s xs :: L) := fun h ⟨h1, h2, ⟨cs, ⟨a, b⟩, c⟩, q, d, l1, l2⟩ => ⟨h1, h2, ⟨cs, ⟨a.mono hl, b⟩, c⟩, q, d, l1, l2⟩
theorem ownS_nil {base : Option Addr} : Sub L (ownS R sz w T H (.slice base 0 0) [] :: L) := own_nil.trans fun h ⟨h1, h2, a, q, d, l1, l2⟩ => ⟨h1, h2, ⟨[], ⟨rfl, by simp⟩, a⟩, q, d, l1, l2⟩
theorem ownS_mk {cs : List Value} (h1 : RL R H cs xs) (h2 : xs.length * w ≤ cap47) : Sub (own T sz s xs.length cs :: L) (ownS R sz w T H s xs :: L) := fun h ⟨h3, h4, p, q, d, l1, l2⟩ => ⟨h3, h4, ⟨cs, ⟨h1, h2⟩, p⟩, q, d, l1, l2⟩
theorem ownS_shape {h : Heap} (ho : ownS R sz w T H s xs h) : ∃ base cap, s = .slice base xs.length cap ∧ xs.length ≤ cap ∧ cap ≤ 9223372036854775807 := by obtain ⟨cs, _, a⟩ := ho; exact (own_shape a).1
theorem ownS_small {h : Heap} (ho : ownS R sz w T H s xs h) : xs.length * w ≤ cap47 := by obtain ⟨cs, a, _⟩ := ho; exact a.2
theorem ownS_reads [RdOk R sz] {h : Heap} (ho : ownS R sz w T H s xs h) (hH : H.le H') (hl : h.le H') : SlB R sz w H' s xs := by
  obtain ⟨cs, ⟨a, b⟩, c⟩ := ho
  exact ⟨⟨cs, own_reads c hl a.one, a.mono hH⟩, b⟩
end
/-- an owned slice found -/
class HasS (L : List HProp) (s : Value) (α : outParam Type) (R : outParam (Rd α)) (sz w T : outParam Nat) (H : outParam Heap) (xs : outParam (List α)) (L' : outParam (List HProp)) : Prop where
  has : Has L (ownS R sz w T H s xs) L'
section
variable {s : Value} {α : Type} {R : Rd α} {sz w T : Nat} {H : Heap} {xs : List α} {L L' B : List HProp} {A : HProp}
instance : HasS (ownS R sz w T H s xs :: L) s α R sz w T H xs L := ⟨.here⟩
instance [h : HasS L s α R sz w T H xs L'] : HasS (A :: L) s α R sz w T H xs (A :: L') := ⟨.there h.has⟩
instance [h : HasS L s α R sz w T H xs L'] : HasS ([] ++ L) s α R sz w T H xs L' := ⟨h.has⟩
instance {B' : List HProp} [h : HasS (B' ++ (B ++ L)) s α R sz w T H xs L'] : HasS ((B' ++ B) ++ L) s α R sz w T H xs L' := ⟨by rw [List.append_assoc]; exact h.has⟩
instance [h : HasS L s α R sz w T H xs L'] : HasS (List.append [] L) s α R sz w T H xs L' := ⟨h.has⟩
instance [h : HasS (A :: (B ++ L)) s α R sz w T H xs L'] : HasS (List.append (A :: B) L) s α R sz w T H xs L' := ⟨h.has⟩
instance [h : HasS (A :: (B ++ L)) s α R sz w T H xs L'] : HasS ((A :: B) ++ L) s α R sz w T H xs L' := ⟨h.has⟩
end
section
variable {P : Program} {n : Nat} {W0 : World} {Q : Exit → Act → World → Prop} {F : Slots} {H : Heap} {L : List HProp} {ops : Array Oper} {rest : List Oper} {k : List Fr} {e : Exit} {c : Code}
theorem ops_L {L' : List HProp} (hs : Sub L L') (h : Ops P n W0 Q F H L' false ops rest k) : Ops P n W0 Q F H L false ops rest k := ⟨sat_sub h.run hs⟩
theorem ops_know {A : HProp} {p : Prop} {R : List HProp} (hh : Has L A R) (hu : ∀ h, A h → p) (h : p → Ops P n W0 Q F H L false ops rest k) : Ops P n W0 Q F H L false ops rest k := ⟨sat_know hh hu fun hp => (h hp).run⟩
theorem ops_open {σ : Type} {A : HProp} {B : σ → List HProp} {p : σ → Prop} {R : List HProp} (hh : Has L A R) (hu : ∀ h, A h → ∃ s, p s ∧ big (B s) h) (h : ∀ s, p s → Ops P n W0 Q F H (B s ++ R) false ops rest k) : Ops P n W0 Q F H L false ops rest k := ⟨sat_unfold hh hu fun s hp => (h s hp).run⟩
theorem ops_shape {α : Type} {R : Rd α} {sz w T : Nat} {H0 : Heap} {xs : List α} {L' : List HProp} (s : Value) [hh : HasS L s α R sz w T H0 xs L'] (h : ∀ base cap, s = .slice base xs.length cap → xs.length ≤ cap → cap ≤ 9223372036854775807 → xs.length * w ≤ cap47 → Ops P n W0 Q F H L false ops rest k) : Ops P n W0 Q F H L false ops rest k :=
  ⟨sat_know hh.has (fun _ ho => And.intro (ownS_shape ho) (ownS_small ho)) fun ⟨⟨b, c, e, h1, h2⟩, h3⟩ => (h b c e h1 h2 h3).run⟩
theorem ops_freeze {α : Type} {R : Rd α} {sz w T : Nat} {H0 : Heap} {xs : List α} {L' : List HProp} (s : Value) [hh : HasS L s α R sz w T H0 xs L'] [hR : RdOk R sz] (h : ∀ H', H.le H' → SlB R sz w H' s xs → Ops P n W0 Q F H' L' false ops rest k) (hl : H0.le H := by first | exact Go.Sx.Heap.le.refl _ | assumption | ((try simp only [Go.Sx.le_self] at *); (repeat (first | exact Go.Sx.Heap.le.refl _ | assumption | refine Go.Sx.Heap.le.trans ?_ ‹Go.Sx.Heap.le _ _›)))) : Ops P n W0 Q F H L false ops rest k :=
  ⟨sat_unfold (σ := List Value) (B := fun cs => [own T sz s xs.length cs]) (p := fun cs => RL R H0 cs xs ∧ xs.length * w ≤ cap47) hh.has (fun x ⟨cs, a, b⟩ => ⟨cs, a, ⟨x, Heap.empty, b, trivial, fun _ => .inr rfl, .refl _, fun _ _ h => by simp [Heap.empty] at h⟩⟩)
    fun cs ⟨a, b⟩ => sat_freeze_own .here a.one fun H' hl' hs => (h H' hl' ⟨⟨cs, hs, a.mono (hl.trans hl')⟩, b⟩).run⟩
theorem ex_L {L' : List HProp} (hs : Sub L L') (h : Ex P n W0 Q F H L' c k) : Ex P n W0 Q F H L c k := ⟨sat_sub h.run hs⟩
theorem ex_know {A : HProp} {p : Prop} {R : List HProp} (hh : Has L A R) (hu : ∀ h, A h → p) (h : p → Ex P n W0 Q F H L c k) : Ex P n W0 Q F H L c k := ⟨sat_know hh hu fun hp => (h hp).run⟩
theorem ex_open {σ : Type} {A : HProp} {B : σ → List HProp} {p : σ → Prop} {R : List HProp} (hh : Has L A R) (hu : ∀ h, A h → ∃ s, p s ∧ big (B s) h) (h : ∀ s, p s → Ex P n W0 Q F H (B s ++ R) c k) : Ex P n W0 Q F H L c k := ⟨sat_unfold hh hu fun s hp => (h s hp).run⟩
theorem ex_shape {α : Type} {R : Rd α} {sz w T : Nat} {H0 : Heap} {xs : List α} {L' : List HProp} (s : Value) [hh : HasS L s α R sz w T H0 xs L'] (h : ∀ base cap, s = .slice base xs.length cap → xs.length ≤ cap → cap ≤ 9223372036854775807 → xs.length * w ≤ cap47 → Ex P n W0 Q F H L c k) : Ex P n W0 Q F H L c k :=
  ⟨sat_know hh.has (fun _ ho => And.intro (ownS_shape ho) (ownS_small ho)) fun ⟨⟨b, c, e, h1, h2⟩, h3⟩ => (h b c e h1 h2 h3).run⟩
theorem ex_freeze {α : Type} {R : Rd α} {sz w T : Nat} {H0 : Heap} {xs : List α} {L' : List HProp} (s : Value) [hh : HasS L s α R sz w T H0 xs L'] [hR : RdOk R sz] (h : ∀ H', H.le H' → SlB R sz w H' s xs → Ex P n W0 Q F H' L' c k) (hl : H0.le H := by first | exact Go.Sx.Heap.le.refl _ | assumption | ((try simp only [Go.Sx.le_self] at *); (repeat (first | exact Go.Sx.Heap.le.refl _ | assumption | refine Go.Sx.Heap.le.trans ?_ ‹Go.Sx.Heap.le _ _›)))) : Ex P n W0 Q F H L c k :=
  ⟨sat_unfold (σ := List Value) (B := fun cs => [own T sz s xs.length cs]) (p := fun cs => RL R H0 cs xs ∧ xs.length * w ≤ cap47) hh.has (fun x ⟨cs, a, b⟩ => ⟨cs, a, ⟨x, Heap.empty, b, trivial, fun _ => .inr rfl, .refl _, fun _ _ h => by simp [Heap.empty] at h⟩⟩)
    fun cs ⟨a, b⟩ => sat_freeze_own .here a.one fun H' hl' hs => (h H' hl' ⟨⟨cs, hs, a.mono (hl.trans hl')⟩, b⟩).run⟩
theorem out_L {L' : List HProp} (hs : Sub L L') (h : Out P n W0 Q F H L' e k) : Out P n W0 Q F H L e k := ⟨sat_sub h.run hs⟩
theorem out_know {A : HProp} {p : Prop} {R : List HProp} (hh : Has L A R) (hu : ∀ h, A h → p) (h : p → Out P n W0 Q F H L e k) : Out P n W0 Q F H L e k := ⟨sat_know hh hu fun hp => (h hp).run⟩
theorem out_open {σ : Type} {A : HProp} {B : σ → List HProp} {p : σ → Prop} {R : List HProp} (hh : Has L A R) (hu : ∀ h, A h → ∃ s, p s ∧ big (B s) h) (h : ∀ s, p s → Out P n W0 Q F H (B s ++ R) e k) : Out P n W0 Q F H L e k := ⟨sat_unfold hh hu fun s hp => (h s hp).run⟩
theorem out_shape {α : Type} {R : Rd α} {sz w T : Nat} {H0 : Heap} {xs : List α} {L' : List HProp} (s : Value) [hh : HasS L s α R sz w T H0 xs L'] (h : ∀ base cap, s = .slice base xs.length cap → xs.length ≤ cap → cap ≤ 9223372036854775807 → xs.length * w ≤ cap47 → Out P n W0 Q F H L e k) : Out P n W0 Q F H L e k :=
  ⟨sat_know hh.has (fun _ ho => And.intro (ownS_shape ho) (ownS_small ho)) fun ⟨⟨b, c, e, h1, h2⟩, h3⟩ => (h b c e h1 h2 h3).run⟩
theorem out_freeze {α : Type} {R : Rd α} {sz w T : Nat} {H0 : Heap} {xs : List α} {L' : List HProp} (s : Value) [hh : HasS L s α R sz w T H0 xs L'] [hR : RdOk R sz] (h : ∀ H', H.le H' → SlB R sz w H' s xs → Out P n W0 Q F H' L' e k) (hl : H0.le H := by first | exact Go.Sx.Heap.le.refl _ | assumption | ((try simp only [Go.Sx.le_self] at *); (repeat (first | exact Go.Sx.Heap.le.refl _ | assumption | refine Go.Sx.Heap.le.trans ?_ ‹Go.Sx.Heap.le _ _›)))) : Out P n W0 Q F H L e k :=
  ⟨sat_unfold (σ := List Value) (B := fun cs => [own T sz s xs.length cs]) (p := fun cs => RL R H0 cs xs ∧ xs.length * w ≤ cap47) hh.has (fun x ⟨cs, a, b⟩ => ⟨cs, a, ⟨x, Heap.empty, b, trivial, fun _ => .inr rfl, .refl _, fun _ _ h => by simp [Heap.empty] at h⟩⟩)
    fun cs ⟨a, b⟩ => sat_freeze_own .here a.one fun H' hl' hs => (h H' hl' ⟨⟨cs, hs, a.mono (hl.trans hl')⟩, b⟩).run⟩
theorem ops_rowS {α : Type} {R : Rd α} {sz w T : Nat} {H0 : Heap} {xs : List α} {L' : List HProp} (s : Value) [hh : HasS L s α R sz w T H0 xs L'] (h0 : 0 < xs.length)
    (h : ∀ b cap cs sp, s = .slice (some ⟨b, 0, none⟩) xs.length cap → xs.length ≤ cap → cap ≤ 9223372036854775807 → cs.length = xs.length * sz → (cs ++ sp).length = cap * sz → RL R H0 cs xs → xs.length * w ≤ cap47 → Ops P n W0 Q F H (row b T (cs ++ sp) :: L') false ops rest k) : Ops P n W0 Q F H L false ops rest k :=
  ⟨sat_unfold (σ := List Value) (B := fun cs => [own T sz s xs.length cs]) (p := fun cs => RL R H0 cs xs ∧ xs.length * w ≤ cap47) hh.has (fun x ⟨cs, a, b⟩ => ⟨cs, a, ⟨x, Heap.empty, b, trivial, fun _ => .inr rfl, .refl _, fun _ _ h => by simp [Heap.empty] at h⟩⟩)
    fun cs ⟨a, hb⟩ => sat_unfold (σ := Nat × Nat × List Value) (B := fun s => [row s.1 T (cs ++ s.2.2)]) (p := fun x => s = .slice (some ⟨x.1, 0, none⟩) xs.length x.2.1 ∧ xs.length ≤ x.2.1 ∧ x.2.1 ≤ 9223372036854775807 ∧ cs.length = xs.length * sz ∧ (cs ++ x.2.2).length = x.2.1 * sz) .here (fun h ho => own_open h0 ho)
      fun ⟨b, cap, sp⟩ ⟨h1, h2, h3, h4, h5⟩ => (h b cap cs sp h1 h2 h3 h4 h5 a hb).run⟩
theorem ex_rowS {α : Type} {R : Rd α} {sz w T : Nat} {H0 : Heap} {xs : List α} {L' : List HProp} (s : Value) [hh : HasS L s α R sz w T H0 xs L'] (h0 : 0 < xs.length)
    (h : ∀ b cap cs sp, s = .slice (some ⟨b, 0, none⟩) xs.length cap → xs.length ≤ cap → cap ≤ 9223372036854775807 → cs.length = xs.length * sz → (cs ++ sp).length = cap * sz → RL R H0 cs xs → xs.length * w ≤ cap47 → Ex P n W0 Q F H (row b T (cs ++ sp) :: L') c k) : Ex P n W0 Q F H L c k :=
  ⟨sat_unfold (σ := List Value) (B := fun cs => [own T sz s xs.length cs]) (p := fun cs => RL R H0 cs xs ∧ xs.length * w ≤ cap47) hh.has (fun x ⟨cs, a, b⟩ => ⟨cs, a, ⟨x, Heap.empty, b, trivial, fun _ => .inr rfl, .refl _, fun _ _ h => by simp [Heap.empty] at h⟩⟩)
    fun cs ⟨a, hb⟩ => sat_unfold (σ := Nat × Nat × List Value) (B := fun s => [row s.1 T (cs ++ s.2.2)]) (p := fun x => s = .slice (some ⟨x.1, 0, none⟩) xs.length x.2.1 ∧ xs.length ≤ x.2.1 ∧ x.2.1 ≤ 9223372036854775807 ∧ cs.length = xs.length * sz ∧ (cs ++ x.2.2).length = x.2.1 * sz) .here (fun h ho => own_open h0 ho)
      fun ⟨b, cap, sp⟩ ⟨h1, h2, h3, h4, h5⟩ => (h b cap cs sp h1 h2 h3 h4 h5 a hb).run⟩
theorem out_rowS {α : Type} {R : Rd α} {sz w T : Nat} {H0 : Heap} {xs : List α} {L' : List HProp} (s : Value) [hh : HasS L s α R sz w T H0 xs L'] (h0 : 0 < xs.length)
    (h : ∀ b cap cs sp, s = .slice (some ⟨b, 0, none⟩) xs.length cap → xs.length ≤ cap → cap ≤ 9223372036854775807 → cs.length = xs.length * sz → (cs ++ sp).length = cap * sz → RL R H0 cs xs → xs.length * w ≤ cap47 → Out P n W0 Q F H (row b T (cs ++ sp) :: L') e k) : Out P n W0 Q F H L e k :=
  ⟨sat_unfold (σ := List Value) (B := fun cs => [own T sz s xs.length cs]) (p := fun cs => RL R H0 cs xs ∧ xs.length * w ≤ cap47) hh.has (fun x ⟨cs, a, b⟩ => ⟨cs, a, ⟨x, Heap.empty, b, trivial, fun _ => .inr rfl, .refl _, fun _ _ h => by simp [Heap.empty] at h⟩⟩)
    fun cs ⟨a, hb⟩ => sat_unfold (σ := Nat × Nat × List Value) (B := fun s => [row s.1 T (cs ++ s.2.2)]) (p := fun x => s = .slice (some ⟨x.1, 0, none⟩) xs.length x.2.1 ∧ xs.length ≤ x.2.1 ∧ x.2.1 ≤ 9223372036854775807 ∧ cs.length = xs.length * sz ∧ (cs ++ x.2.2).length = x.2.1 * sz) .here (fun h ho => own_open h0 ho)
      fun ⟨b, cap, sp⟩ ⟨h1, h2, h3, h4, h5⟩ => (h b cap cs sp h1 h2 h3 h4 h5 a hb).run⟩
end
section
variable {P : Program} {n : Nat} {W0 : World} {Q : Exit → Act → World → Prop} {F : Slots} {H : Heap} {L : List HProp} {ops : Array Oper} {rest : List Oper} {k : List Fr} {ty ty' : TypeId} {pos pos' : String} {aft aft' : Array Edge} {d d' : Tmp} {g g' : Option (Nat × Bool)}
  {α : Type} {R : Rd α} {sz w T : Nat} {H0 : Heap} {xs ys : List α} {y : α} {L' : List HProp} {sv xv z : Value} {us : List Value} {gv gv' : Option (Value × Bool)}
/-- append(s, x) -/
theorem ops_app1 {t : TypeId} {s x : Operand} [hT : TSl P t T] [hI : TIn P T sz w z] [hS' : TSz P T sz] [hZ : TZ P T z] [hR : RdOk R sz] (hg : gval ops F g = some gv) [hb : GOk gv true] (hg' : gval ops F g' = some gv') [hb' : GOk gv' true]
    (hv : opvs F [s, x] = some [sv, xv]) [hc : CellsI xv us] [hh : HasS L sv α R sz w T H0 xs L'] (hy : R H us y) (hcap : (xs.length + 1) * w ≤ cap47)
    (hk : ∀ base cap, Ops P n W0 Q ((d', .slice base (xs.length + 1) cap) :: F) H (ownS R sz w T H (.slice base (xs.length + 1) cap) (xs ++ [y]) :: L') false ops rest k)
    (hl : H0.le H := by first | exact Go.Sx.Heap.le.refl _ | assumption | ((try simp only [Go.Sx.le_self] at *); (repeat (first | exact Go.Sx.Heap.le.refl _ | assumption | refine Go.Sx.Heap.le.trans ?_ ‹Go.Sx.Heap.le _ _›)))) (h0 : (Nat.blt 0 sz && Nat.ble sz 1000 && Nat.blt 0 w) = true := by rfl) (hn : fget F d = none := by rfl) (hne : Nat.beq d d' = false := by rfl) (hd : Nat.blt d n = true := by rfl) (hd' : Nat.blt d' n = true := by rfl)
    (hs0 : ∀ u, opv ((d, u) :: F) s = opv F s := by intro u; rfl) :
    Ops P n W0 Q F H L false ops (⟨some d, .buildSlice t 1 #[(0, x)], ty, pos, aft, g⟩ :: ⟨some d', .call ⟨.builtin .append, #[s, .tmp d], #[t, t]⟩, ty', pos', aft', g'⟩ :: rest) k := by
  obtain ⟨hvs, hvx⟩ := opvs2 hv
  simp only [Bool.and_eq_true] at h0
  have hwpos : 0 < w := by simpa [Nat.blt_eq] using h0.2
  have hzs : z.cells.size = sz := by obtain ⟨_, _, _, _, _, h, _⟩ := hI.ex; exact h
  refine ops_w hg hd (op_buildSlice1 (z := z) hvx hc.h (hR.len hy) hzs (by simp [h0.1]) fun b hbn => ?_)
  refine ops_open (σ := List Value) (B := fun cs => [own T sz sv xs.length cs]) (p := fun cs => RL R H0 cs xs ∧ xs.length * w ≤ cap47) (.there hh.has) (fun x ⟨cs, a, b⟩ => ⟨cs, a, ⟨x, Heap.empty, b, trivial, fun _ => .inr rfl, .refl _, fun _ _ h => by simp [Heap.empty] at h⟩⟩) fun cs ⟨a, hsm⟩ => ?_
  have hc47 := cap47_fits hwpos hcap
  refine ops_w (gval_new hn hg') hd' (op_append (m := xs.length) (k := 1) (news := us) (xv := .slice (some ⟨b, 0, none⟩) 1 1) ((hs0 _).trans hvs) (by simp [opv, fget]) .here (.row0 hT.und (.there .here) (by simpa using hR.len hy) (hR.one hy)) (by simp only [maxLen]; simp only [cap47] at hc47; omega) hcap fun base cap => ?_)
  refine ops_fsub (fsub_new hn) (ops_L ?_ (hk base cap))
  intro h ⟨h1, h2, p, q, dd, l1, l2⟩
  refine ⟨h1, h2, ⟨cs ++ us, ⟨(a.mono hl).snoc hy, by simpa using hcap⟩, by simpa using p⟩, ?_, dd, l1, l2⟩
  exact Sub.drop (Sub.refl _) _ q
/-- append(s, x...), x only read -/
theorem ops_appS {t : TypeId} {s x : Operand} [hT : TSl P t T] [hI : TIn P T sz w z] [hR : RdOk R sz] (hg : gval ops F g = some gv) [hb : GOk gv true] (hv : opvs F [s, x] = some [sv, xv]) [hh : HasS L sv α R sz w T H0 xs L'] (hy : SlR R sz H xv ys) (hcap : (xs.length + ys.length) * w ≤ cap47)
    (hk : ∀ base cap, Ops P n W0 Q ((d, .slice base (xs.length + ys.length) cap) :: F) H (ownS R sz w T H (.slice base (xs.length + ys.length) cap) (xs ++ ys) :: L') false ops rest k)
    (hl : H0.le H := by first | exact Go.Sx.Heap.le.refl _ | assumption | ((try simp only [Go.Sx.le_self] at *); (repeat (first | exact Go.Sx.Heap.le.refl _ | assumption | refine Go.Sx.Heap.le.trans ?_ ‹Go.Sx.Heap.le _ _›)))) (h0 : (Nat.blt 0 w) = true := by rfl) (hd : Nat.blt d n = true := by rfl) :
    Ops P n W0 Q F H L false ops (⟨some d, .call ⟨.builtin .append, #[s, x], #[t, t]⟩, ty, pos, aft, g⟩ :: rest) k := by
  obtain ⟨hvs, hvx⟩ := opvs2 hv
  have hwpos : 0 < w := by simpa [Nat.blt_eq] using h0
  obtain ⟨ds, hy1, hy2⟩ := hy
  refine ops_open (σ := List Value) (B := fun cs => [own T sz sv xs.length cs]) (p := fun cs => RL R H0 cs xs ∧ xs.length * w ≤ cap47) hh.has (fun x ⟨cs, a, b⟩ => ⟨cs, a, ⟨x, Heap.empty, b, trivial, fun _ => .inr rfl, .refl _, fun _ _ h => by simp [Heap.empty] at h⟩⟩) fun cs ⟨a, hsm⟩ => ?_
  have hc47 := cap47_fits hwpos hcap
  refine ops_w hg hd (op_append (m := xs.length) (k := ys.length) (news := ds) hvs hvx .here (.ro hT.und hy1) (by simp only [maxLen]; simp only [cap47] at hc47; omega) hcap fun base cap => ?_)
  refine ops_L ?_ (hk base cap)
  intro h ⟨h1, h2, p, q, dd, l1, l2⟩
  exact ⟨h1, h2, ⟨cs ++ ds, ⟨(a.mono hl).app hy2, by simpa using hcap⟩, by simpa using p⟩, q, dd, l1, l2⟩
/-- []T{} -/
theorem ops_mk0 (R : Rd α) {t : TypeId} [hT : TSl P t T] [hS' : TSz P T sz] [hR : RdOk R sz] (hg : gval ops F g = some gv) [hb : GOk gv true] (hk : ∀ b, Ops P n W0 Q ((d, .slice b 0 0) :: F) H (ownS R sz w T H (.slice b 0 0) [] :: L) false ops rest k) (hd : Nat.blt d n = true := by rfl) :
    Ops P n W0 Q F H L false ops (⟨some d, .buildSlice t 0 #[], ty, pos, aft, g⟩ :: rest) k :=
  ops_w hg hd (op_buildSlice0 fun b _ => ops_L ((Sub.drop (Sub.refl _)).trans ownS_nil) (hk _))
end
end Go.Sx
