/- Small things of the law's play. -/
import Derived.Test.YthoafjeampbkeaaCUL
set_option linter.unusedVariables false
set_option linter.unusedSimpArgs false
namespace Go.Proofs.Ythoafjeampbkeaa
open Go Go.Sx Go.Proofs
theorem ex_cut0 {P : Program} {n : Nat} {W0 : World} {Q : Exit → Act → World → Prop} {F : Slots} {H : Heap} {L : List HProp} {k : List Fr} {x y : Code} {σ : Type} (I : σ → Prop) (mF : σ → Slots) (mH : σ → Heap) (mL : σ → List HProp)
    (h : ∀ K : Act → World → Prop, (∀ s, I s → Sat n W0 (mF s) (mH s) (mL s) K) → Ex P n W0 Q F H L x (.cut K :: k)) (h2 : ∀ s, I s → Ex P n W0 Q (mF s) (mH s) (mL s) y k) : Ex P n W0 Q F H L x (.seq y :: k) :=
  ⟨(h (y.wp P (Kx P Q k)) fun s hs => (h2 s hs).run).run⟩
/-- what is lent in an older form -/
theorem ct_up {P : Program} {f : FuncId} {vs : Array Value} {W0 : World} {H : Heap} {A A' : HProp} {A2 : List HProp} {Post : Value → Heap → List HProp → Prop} (h : Ct P f vs W0 H (A' :: A2) Post) (hu : ∀ h, A h → A' h) : Ct P f vs W0 H (A :: A2) Post :=
  Ct.open (σ := Unit) (B := fun _ => [A']) (fun h ha => ⟨(), big_one (hu h ha)⟩) fun _ => h
abbrev CA (b : Option Addr × Nat) (m : Coord) : List Value := m.cv (.slice b.1 m.Txns.length b.2)
abbrev OA (b1 b2 b3 b4 b5 : Option Addr × Nat) (o : Op) : List Value := o.cv (.slice b1.1 o.M.Work.Take.length b1.2) (.slice b2.1 o.M.Work.Drop.length b2.2) (.slice b3.1 o.M.Call.Route.Cells.length b3.2) (.slice b4.1 o.M.Reply.Route.Cells.length b4.2) (.slice b5.1 o.Works.length b5.2)
theorem CA_of {H : Heap} {c : List Value} {m : Coord} (h : rCoord H c m) : ∃ b, c = CA b m := by
  obtain ⟨s, rfl, _, _, _, hs⟩ := h
  obtain ⟨b, c, rfl, _, _⟩ := hs.1.shape
  exact ⟨(b, c), rfl⟩
theorem hear_node {s : CS} {m : Message} : (cHear s m).s.node = s.node := by
  unfold cHear
  repeat' split
  all_goals rfl
theorem beg_node {s s' : CS} {now : Int} {l : List Work} {x : Txn} {out : List Message} {e : Int} (h : BegA s now l x out e s') : s'.node = s.node := by
  obtain ⟨ws, _, ⟨_, _, _, _, rfl⟩ | ⟨h, _, _, _, rfl⟩⟩ := h
  · rfl
  · unfold beginS; rw [if_neg h]
theorem cap7 {k : Nat} {s : CS} {m : Coord} (h : PI k s m) : ∀ key t, mget key s.ts = some t → t.parts.length * 8 ≤ cap47 := fun key t hg => by have := h.pl key t hg; simp only [cap47]; omega
theorem cap8 {k : Nat} {s : CS} {m : Coord} (h : PI k s m) : ∀ key t, mget key s.ts = some t → t.parts.length ≤ 1000000 := fun key t hg => by have := h.pl key t hg; omega
end Go.Proofs.Ythoafjeampbkeaa
