/- Lending: an owned part is only read for a while, and is given back. Parts that read nothing else. No program in sight. -/
import Derived.Test.YtjafnombaehcaaaKC
set_option linter.unusedVariables false
set_option linter.unusedSimpArgs false
namespace Go.Sx
open Go
section
variable {n : Nat} {W0 : World} {F : Slots} {H H' : Heap} {L R : List HProp} {A : HProp} {D : Heap} {G : Act → World → Prop}
theorem sat_lend (hh : Has L A R) (h : ∀ D, A D → Disj H D → H.le (union H D) → D.le (union H D) → Sat n W0 F (union H D) R G) : Sat n W0 F H L G := fun a w hF hS => by
  obtain ⟨hA, hR, pa, r, d, dA, dR, lA, lR⟩ := (hS.sub hh.to).parts
  exact h hA pa dA (le_union_left _ _) (le_union_right dA) a w hF ⟨hS.env, union_le hS.ro lA, hR, r, lR, disj_union dR d⟩
theorem sat_back (ho : A D) (hd : Disj H D) (hl : (union H D).le H') (h : Sat n W0 F H (A :: L) G) : Sat n W0 F H' L G := fun a w hF hS => by
  obtain ⟨x, hx, lx, dx⟩ := hS.own
  have d1 : Disj (union H D) x := dx.mono hl
  have lw := hl.trans hS.ro
  exact h a w hF (St.of_parts hS.env ((le_union_left _ _).trans lw) ho hx (d1.mono (le_union_right hd)) hd (d1.mono (le_union_left _ _)) ((le_union_right hd).trans lw) lx)
theorem sat_weak (hl : H.le H') (h : Sat n W0 F H L G) : Sat n W0 F H' L G := fun a w hF hS => h a w hF ⟨hS.env, hl.trans hS.ro, let ⟨x, a, b, c⟩ := hS.own; ⟨x, a, b, c.mono hl⟩⟩
end
section
variable {P : Program} {n : Nat} {W0 : World} {Q : Exit → Act → World → Prop} {F : Slots} {H H' : Heap} {L R : List HProp} {A : HProp} {D : Heap} {ops : Array Oper} {rest : List Oper} {k : List Fr} {e : Exit} {c : Code}
theorem ops_lend (hh : Has L A R) (h : ∀ D, A D → Disj H D → H.le (union H D) → D.le (union H D) → Ops P n W0 Q F (union H D) R false ops rest k) : Ops P n W0 Q F H L false ops rest k := ⟨sat_lend hh fun D a b x y => (h D a b x y).run⟩
theorem ex_lend (hh : Has L A R) (h : ∀ D, A D → Disj H D → H.le (union H D) → D.le (union H D) → Ex P n W0 Q F (union H D) R c k) : Ex P n W0 Q F H L c k := ⟨sat_lend hh fun D a b x y => (h D a b x y).run⟩
theorem out_lend (hh : Has L A R) (h : ∀ D, A D → Disj H D → H.le (union H D) → D.le (union H D) → Out P n W0 Q F (union H D) R e k) : Out P n W0 Q F H L e k := ⟨sat_lend hh fun D a b x y => (h D a b x y).run⟩
theorem ops_back (ho : A D) (hd : Disj H D) (hl : (union H D).le H') (h : Ops P n W0 Q F H (A :: L) false ops rest k) : Ops P n W0 Q F H' L false ops rest k := ⟨sat_back ho hd hl h.run⟩
theorem ex_back (ho : A D) (hd : Disj H D) (hl : (union H D).le H') (h : Ex P n W0 Q F H (A :: L) c k) : Ex P n W0 Q F H' L c k := ⟨sat_back ho hd hl h.run⟩
theorem out_back (ho : A D) (hd : Disj H D) (hl : (union H D).le H') (h : Out P n W0 Q F H (A :: L) e k) : Out P n W0 Q F H' L e k := ⟨sat_back ho hd hl h.run⟩
theorem ops_weak (hl : H.le H') (h : Ops P n W0 Q F H L false ops rest k) : Ops P n W0 Q F H' L false ops rest k := ⟨sat_weak hl h.run⟩
theorem ex_weak (hl : H.le H') (h : Ex P n W0 Q F H L c k) : Ex P n W0 Q F H' L c k := ⟨sat_weak hl h.run⟩
theorem out_weak (hl : H.le H') (h : Out P n W0 Q F H L e k) : Out P n W0 Q F H' L e k := ⟨sat_weak hl h.run⟩
end
/-- elements that read the same in any memory -/
class RdFlat {α : Type} (R : Rd α) : Prop where
  flat : ∀ {H H' c x}, R H c x → R H' c x
instance : RdFlat rInt := ⟨fun h => h⟩
instance : RdFlat rStr := ⟨fun h => h⟩
instance : RdFlat rBool := ⟨fun h => h⟩
theorem RL.flat {α : Type} {R : Rd α} [RdFlat R] {H H' : Heap} : ∀ {xs : List α} {cs : List Value}, RL R H cs xs → RL R H' cs xs
  | [], _, h => h
  | _ :: _, _, ⟨c, r, e, h1, h2⟩ => ⟨c, r, e, RdFlat.flat h1, h2.flat⟩
theorem ownS_flat {α : Type} {R : Rd α} [RdFlat R] {sz w T : Nat} {H H' : Heap} {s : Value} {xs : List α} {h : Heap} (ho : ownS R sz w T H s xs h) : ownS R sz w T H' s xs h := by
  obtain ⟨cs, ⟨a, b⟩, c⟩ := ho; exact ⟨cs, ⟨a.flat, b⟩, c⟩
theorem sub_flat {α : Type} {R : Rd α} [RdFlat R] {sz w T : Nat} (H H' : Heap) {s : Value} {xs : List α} {L : List HProp} : Sub (ownS R sz w T H s xs :: L) (ownS R sz w T H' s xs :: L) := fun h ⟨h1, h2, a, r⟩ => ⟨h1, h2, ownS_flat a, r⟩
theorem EL.flat {κ ν : Type} {ek : κ → Value} {R : Rd ν} {ag : Bool} [RdFlat R] {H H' : Heap} : ∀ {es : List MapEntry} {m : List (κ × ν)}, EL ek R ag H es m → EL ek R ag H' es m
  | [], [], _ => trivial
  | _ :: es, _ :: m, ⟨a, ⟨cs, b, c⟩, d⟩ => ⟨a, ⟨cs, b, RdFlat.flat c⟩, d.flat⟩
  | [], _ :: _, h => h.elim
  | _ :: _, [], h => h.elim
theorem mapO_flat {κ ν : Type} {ek : κ → Value} {R : Rd ν} {ag : Bool} [RdFlat R] {H H' : Heap} {b : Nat} {m : List (κ × ν)} {h : Heap} (ho : mapO ek R ag H b m h) : mapO ek R ag H' b m h := by
  obtain ⟨es, c, ⟨x1, x2, x3, x4⟩, e⟩ := ho; exact ⟨es, c, ⟨x1.flat, x2, x3, x4⟩, e⟩
theorem mapO_reads {κ ν : Type} {ek : κ → Value} {R : Rd ν} {ag : Bool} {sz : Nat} [RdOk R sz] {H H' : Heap} {b : Nat} {m : List (κ × ν)} {h : Heap} (ho : mapO ek R ag H b m h) (hH : H.le H') (hl : h.le H') : mapH ek R ag H' b m := by
  obtain ⟨es, c, x, e⟩ := ho; exact ⟨es, c, x.mono hH, hl _ _ e⟩
theorem row_reads {b : Nat} {T : TypeId} {cs : List Value} {h H : Heap} (ho : row b T cs h) (hl : h.le H) : HRow H b 0 cs := fun j v hj => by
  have := hl _ _ ho
  simp only [hcell, this]; simpa using hj
/-- three parts taken together -/
theorem big3 {A B C : HProp} {h : Heap} (hb : big [A, B, C] h) : ∃ h1 h2 h3, (A h1 ∧ h1.le h) ∧ (B h2 ∧ h2.le h) ∧ C h3 ∧ h3.le h := by
  obtain ⟨h1, x1, a, ⟨h2, x2, b, ⟨h3, x3, c, _, _, l5, _⟩, _, l3, l4⟩, _, l1, l2⟩ := hb
  exact ⟨h1, h2, h3, ⟨a, l1⟩, ⟨b, l3.trans l2⟩, c, (l5.trans l4).trans l2⟩
end Go.Sx
